import Derived.Test.YtfoplfpbjajljaaGreatDoorM5
import Derived.Test.YtfoplfpbjajljaaGreatDoorM4
set_option linter.unusedVariables false
set_option linter.unusedSimpArgs false
namespace Go.Proofs.YtfoplfpbjajljaaGreatDoor
set_option maxRecDepth 100000
set_option maxHeartbeats 8000000
def cokB (q : Prp) (c : Cfg) : Prop := ∀ j, j < q.bad.length → (q.bad.getD j cnt0).least ≤ hitN (q.bad.getD j cnt0).states (c.states.take c.correct.toNat)
def badB (p : Pro) (q : Prp) (c : Cfg) : Prop := cokB q c ∧ (q.adjacent.length = 0 ∨ adjB p c q.adjacent)
noncomputable instance decBad (p : Pro) (q : Prp) (c : Cfg) : Decidable (badB p q c) := Classical.propDecidable _
def cntS : Sh := intsS (.int .nil)
def cntOf : Den cntS → Cnt
 |(a, b, _) => ⟨nums a, b⟩
section
variable {S : Store}
theorem cv_cnt (y : Den cntS) : CvL S (encS cntS y) (encCnt (cntOf y)) := by
 obtain ⟨a, b, ⟨⟩⟩ := y
 exact ⟨Cv.ints a, Cv.refl _ _, trivial⟩
theorem cv_cnts (l : List (Den cntS)) : Cv S (.sl (dflt cntS) (encS cntS) l) (.sl cnt0 encCnt (l.map cntOf)) :=
 Cv.sl (d := dflt cntS) (enc := encS cntS) cnt0 encCnt cntOf fun y _ => ⟨cv_cnt y, rfl⟩
end
end Go.Proofs.YtfoplfpbjajljaaGreatDoor
namespace Go.Proofs.YtfoplfpbjajljaaGreatDoor
set_option maxRecDepth 100000
set_option maxHeartbeats 8000000
def cntM (p : Pro) (s : Siz) (c : Cfg) (m : Int) : Bool → Int
 |false => c.sent.getD m.toNat 0 + (if p.fault = 1 ∨ p.fault = 2 then c.faulty.getD m.toNat 0 else if p.fault = 3 then s.f else 0)
 |true => c.sent.getD m.toNat 0 + (if p.fault = 1 then c.faulty.getD m.toNat 0 else 0)
theorem valE_ok {m v : Int} (h : valE m v = 0) : -1 ≤ v ∧ v < m := by
 unfold valE at h; split at h <;> omega
structure RulOk (p : Pro) (r : Rul) : Prop where
 fit : fitB r.kind p.topology
 sur : ¬ surB r p.topology
 src : 0 ≤ r.src ∧ r.src < p.states.length
 dst : 0 ≤ r.dst ∧ r.dst < p.states.length
 kin : kindE p r = 0
structure Rdy (p : Pro) (s : Siz) (c : Cfg) : Prop where
 big : ¬ bigP p
 wide : wideB c = false
 val : validE p = 0
 siz : inZ s
 sz : (1 ≤ s.n ∧ s.n ≤ 8) ∧ (0 ≤ s.f ∧ s.f ≤ s.n)
 adm : admB p s
 vc : VC p s c
theorem Rdy.sent {p : Pro} {s : Siz} {c : Cfg} (h : Rdy p s c) : inR c.sent 1048577 ∧ inR c.faulty 1048577 := by
 refine ⟨h.vc.sen, fun j hj => ?_⟩
 have := h.vc.fau j hj
 have e : whL p ≤ 1048576 := by unfold whL; split <;> omega
 omega
def grdA (p : Pro) (s : Siz) (c : Cfg) (f : Bool) (g : Thr) : Prop := evalL g.bound s ≤ g.coef * cntM p s c g.message f
def grdB (p : Pro) (s : Siz) (c : Cfg) (r : Rul) (f : Bool) : Prop := ∀ j, j < r.guards.length → grdA p s c f (r.guards.getD j thr0)
noncomputable instance decGrd (p : Pro) (s : Siz) (c : Cfg) (r : Rul) (f : Bool) : Decidable (grdB p s c r f) := Classical.propDecidable _
def exK (c : Cfg) (l : List Int) (i : Int) (k : Nat) : Prop := l.length = 0 ∨ ∃ j, j < k ∧ (j : Int) ≠ i ∧ c.states.getD j 0 ∈ l
def faK (c : Cfg) (l : List Int) (i : Int) (k : Nat) : Prop := l.length = 0 ∨ ∀ j, j < k → (j : Int) ≠ i → c.states.getD j 0 ∈ l
def othB (c : Cfg) (r : Rul) (i : Int) : Prop := exK c r.some_ i c.states.length ∧ faK c r.forall_ i c.states.length
noncomputable instance decOth (c : Cfg) (r : Rul) (i : Int) : Decidable (othB c r i) := Classical.propDecidable _
section
variable {c : Cfg} {l : List Int} {i : Int} {k : Nat}
end
def demB (c : Cfg) (l : List Int) (x : Int) : Prop := l.length = 0 ∨ (0 ≤ x ∧ c.states.getD x.toNat 0 ∈ l)
noncomputable instance decDem (c : Cfg) (l : List Int) (x : Int) : Decidable (demB c l x) := Classical.propDecidable _
end Go.Proofs.YtfoplfpbjajljaaGreatDoor
namespace Go.Proofs.YtfoplfpbjajljaaGreatDoor
set_option maxRecDepth 100000
set_option maxHeartbeats 8000000
structure Stp where
 rule : Int
 process : Int
 partner : Int
def nF (p : Pro) (c : Cfg) (i : Nat) : Int := nbF p.topology c.shape c.states.length i
def nS (p : Pro) (c : Cfg) (i : Nat) : Int := nbS p.topology c.shape c.states.length i
def nP (p : Pro) (c : Cfg) (i : Nat) : Int := nbP p.topology c.shape c.states.length i
def posB (p : Pro) (c : Cfg) (r : Rul) (i : Nat) : Prop := (r.at_ = 1 → i = 0) ∧ (r.at_ = 2 → (p.topology = 2 → nS p c i = -1) ∧ (p.topology = 4 → nF p c i = -1))
noncomputable instance decPos (p : Pro) (c : Cfg) (r : Rul) (i : Nat) : Decidable (posB p c r i) := Classical.propDecidable _
def pasB (p : Pro) (c : Cfg) (r : Rul) (i : Nat) (j : Int) : Prop := if r.direction = 1 then nS p c i = j else if r.direction = 2 then nF p c i = j else if r.direction = 3 then (nF p c i = j ∨ nS p c i = j) else nP p c i = j
noncomputable instance decPas (p : Pro) (c : Cfg) (r : Rul) (i : Nat) (j : Int) : Decidable (pasB p c r i j) := Classical.propDecidable _
def prtB (c : Cfg) (r : Rul) (x : Stp) : Prop := 0 ≤ x.partner ∧ x.partner < c.states.length ∧ x.partner ≠ x.process ∧ c.states.getD x.partner.toNat 0 = r.pfrom
def nbrB (p : Pro) (c : Cfg) (r : Rul) (i : Nat) : Prop := posB p c r i ∧ demB c r.left (nF p c i) ∧ demB c r.right (nS p c i) ∧ demB c r.parent (nP p c i)
def kinB (p : Pro) (s : Siz) (c : Cfg) (r : Rul) (x : Stp) (f : Bool) : Prop :=
 if r.kind = 2 ∨ r.kind = 5 then prtB c r x ∧ (r.kind = 2 ∨ pasB p c r x.process.toNat x.partner)
 else x.partner = -1 ∧ (if r.kind = 1 then grdB p s c r f ∧ othB c r x.process else if r.kind = 3 then True else nbrB p c r x.process.toNat)
def enC (p : Pro) (s : Siz) (c : Cfg) (r : Rul) (x : Stp) (f : Bool) : Prop := c.states.getD x.process.toNat 0 = r.src ∧ (r.read = -1 ∨ c.value = r.read) ∧ kinB p s c r x f
def enB (p : Pro) (s : Siz) (c : Cfg) (x : Stp) (f : Bool) : Prop := ((0 ≤ x.rule ∧ x.rule < p.rules.length) ∧ (0 ≤ x.process ∧ x.process < c.states.length)) ∧ enC p s c (p.rules.getD x.rule.toNat rul0) x f
noncomputable instance decEn (p : Pro) (s : Siz) (c : Cfg) (x : Stp) (f : Bool) : Decidable (enB p s c x f) := Classical.propDecidable _
theorem RulOk.read {p : Pro} {r : Rul} (h : RulOk p r) : -1 ≤ r.read ∧ -1 ≤ r.write ∧ r.read < p.values.length ∧ r.write < p.values.length := by
 have hk := h.kin
 have hs := h.sur
 have hf := h.fit
 unfold fitB at hf
 unfold kindE at hk
 by_cases k1 : r.kind = 1
 ·rw [if_pos k1] at hk
  have hz := orL_zero hk
  have a := valE_ok (hz (valE p.values.length r.read) (by simp))
  have b := valE_ok (hz (valE p.values.length r.write) (by simp))
  omega
 rw [if_neg k1] at hk
 by_cases k2 : r.kind = 2
 ·rw [if_pos k2] at hk
  have hz := orL_zero hk
  have a := valE_ok (hz (valE p.values.length r.read) (by simp))
  have b := valE_ok (hz (valE p.values.length r.write) (by simp))
  omega
 rw [if_neg k2] at hk
 by_cases k3 : r.kind = 3
 ·rw [if_pos k3] at hk
  have hz := orL_zero hk
  have a := valE_ok (hz (valE p.values.length r.read) (by simp))
  have b := valE_ok (hz (valE p.values.length r.write) (by simp))
  omega
 ·unfold surB at hs
  omega
theorem RulOk.guards {p : Pro} {r : Rul} (h : RulOk p r) (hk : r.kind = 1) : guardsE p.messages.length r.guards = 0 := by
 have := h.kin
 unfold kindE at this
 rw [if_pos hk] at this
 exact orL_zero this _ (by simp)
end Go.Proofs.YtfoplfpbjajljaaGreatDoor
