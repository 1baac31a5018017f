import Derived.Test.YtjnjieabdjpfnabDoorM4
set_option linter.unusedVariables false
set_option linter.unusedSimpArgs false
namespace Go.Proofs.YtjnjieabdjpfnabDoor
def atS : Sh := .str (.int (.sl (.str .nil) (.sl (.str .nil) (.sl (.str .nil) (.int (.sl linS (intsS (intsS (.sl rulS (.int (.int (.int (intsS (intsS (.int (intsS (intsS (.int .nil))))))))))))))))))
theorem shAt : shOf Tryd.prog 9 37 = some atS := by kernel_rfl
def atP : Den atS → Pro
 |(a, b, c, d, e, f, g, h, i, j, _) => ⟨a, b, txts c, txts d, txts e, f, List.map linOf g, nums h, nums i, List.map rulOf j⟩
def atZ : Den atS → Siz
 |(_, _, _, _, _, _, _, _, _, _, a, b, c, _) => ⟨a, b, c⟩
def atC : Den atS → Cfg
 |(_, _, _, _, _, _, _, _, _, _, _, _, _, a, b, c, d, e, f, _) => ⟨nums a, nums b, c, nums d, nums e, f⟩
theorem cv_at {S : Store} (y : Den atS) : CvL S (encS atS y) (encAt (atP y) (atZ y) (atC y)) := by
 obtain ⟨a, b, c, d, e, f, g, h, i, j, a1, b1, c1, a2, b2, c2, d2, e2, f2, ⟨⟩⟩ := y
 exact ⟨Cv.refl _ _, Cv.refl _ _, Cv.strs c, Cv.strs d, Cv.strs e, Cv.refl _ _, cv_lins g, Cv.ints h, Cv.ints i, cv_ruls j, Cv.refl _ _, Cv.refl _ _, Cv.refl _ _, Cv.ints a2, Cv.ints b2, Cv.refl _ _, Cv.ints d2, Cv.ints e2, Cv.refl _ _, trivial⟩
set_option maxRecDepth 100000
set_option maxHeartbeats 8000000
structure Cnt where
 states : List Int
 least : Int
structure Prp where
 name : ByteArray
 kind : Int
 start : List Int
 bad : List Cnt
 adjacent : List Int
 goal : List Int
def cnt0 : Cnt := ⟨[], 0⟩
def bigQ (q : Prp) : Prop := 500 < q.name.size ∨ 60 < q.start.length ∨ 60 < q.bad.length ∨ 60 < q.adjacent.length ∨ 60 < q.goal.length ∨ ∃ j, j < q.bad.length ∧ 60 < (q.bad.getD j cnt0).states.length
instance (q : Prp) : Decidable (bigQ q) := inferInstanceAs (Decidable (_ ∨ _))
theorem iIndexF (l : List Int) (s : Int) (hl : l.length ≤ 4503599627370496) : PSpec Tryd.prog 105 [.sl 0 encI l, .int .i64 s] (fun u => ∃ n : Int, u = .int .i64 n ∧ (0 ≤ n ↔ s ∈ l)) := by
 refine PSpec.intro tt_ok mx_ok Tryd.func105 rfl (by decide) ?_; (conv => whnf)
 refine WPc.loopF tt_ok mx_ok (fun k : Nat => k ≤ l.length ∧ s ∉ l.take k) (fun k => [(8, .int .i64 (k : Int))]) (fun _ => []) (fun k => l.length - k) 0 ⟨by omega, by simp⟩ ?_; conv => whnf
 refine ⟨sI, ?_⟩
 rintro k ⟨hk, ha⟩
 conv => whnf
 repeat' ((first|refine nI ?_|refine aI ?_|refine arU trivial (by omega) ?_|refine arB trivial (by omega) ?_|refine dI ?_|refine dR ?_|refine dP ?_|refine boxP rfl ?_|refine pI _ rfl ?_|refine rowSetI _ rfl ?_|refine tI ?_|refine fI ?_|refine cmpI (fun _ => ?_) (fun _ => ?_)) <;> conv => whnf)
 ·rename_i h1 h2
  rw [tN] at h2
  refine ⟨⟨k, rfl, fun _ => ?_, fun _ => by omega⟩, rfl⟩
  rw [h2, gD, gL (by omega)]
  exact List.getElem_mem _
 ·rename_i h1 h2
  rw [tN] at h2
  refine ⟨k + 1, sI, ⟨by omega, ?_⟩, by dsimp only; omega⟩
  rw [List.take_succ_eq_append_getElem (by omega), List.mem_append, List.mem_singleton, not_or]
  refine ⟨ha, ?_⟩
  rw [gD, gL (by omega)] at h2
  exact h2
 ·obtain rfl : k = l.length := by omega
  rw [List.take_length] at ha
  exact ⟨⟨-1, rfl, fun h => by omega, fun h => absurd h ha⟩, rfl⟩
theorem iContainsF (l : List Int) (s : Int) (hl : l.length ≤ 4503599627370496) : PSpec Tryd.prog 85 [.sl 0 encI l, .int .i64 s] (fun u => u = .bool (decide (s ∈ l))) := by
 refine PSpec.intro tt_ok mx_ok Tryd.func85 rfl (by decide) ?_; (conv => whnf)
 refine Spec.of_pure (n := 5) (iIndexF l s hl) rfl ?_
 rintro _ ⟨n, rfl, hn⟩
 conv => whnf
 refine cmpI ?_ ?_ <;> (intro h; conv => whnf)
 ·exact ⟨dec_t (hn.1 h), rfl⟩
 ·exact ⟨dec_f (fun hh => h (hn.2 hh)), rfl⟩
def cntE (n : Int) (c : Cnt) : Int := orL [setE c.states n, (if c.states.length = 0 ∨ c.least < 1 ∨ 3 < c.least then 1 else 0)]
def cntsE (n : Int) (l : List Cnt) : Int := orL (l.map (cntE n))
def adjE (p : Pro) (l : List Int) : Int := if l.length = 0 then 0 else if p.topology = 1 then 6 else if l.length ≠ 2 then 1 else orL [indE (l.getD 0 0) p.states.length, indE (l.getD 1 0) p.states.length]
def propE (p : Pro) (q : Prp) : Int :=
 if validE p ≠ 0 then validE p else if ¬ validN q.name then 2 else if q.kind ≠ 1 ∧ q.kind ≠ 2 then 1
 else if (q.kind = 1 ∧ 0 < q.goal.length) ∨ (q.kind = 2 ∧ (0 < q.bad.length ∨ 0 < q.adjacent.length)) then 1
 else if setE q.start p.states.length ≠ 0 then setE q.start p.states.length
 else if ¬ (∀ j, j < q.start.length → q.start.getD j 0 ∈ p.initial) then 5
 else if q.kind = 2 then orL [setE q.goal p.states.length, (if q.goal.length = 0 then 1 else 0)]
 else orL [(if q.bad.length = 0 ∧ q.adjacent.length = 0 then 1 else 0), (if 3 < q.bad.length then 4 else 0), cntsE p.states.length q.bad, adjE p q.adjacent]
theorem wide_le {c : Cfg} (hw : wideB c = false) : c.shape.length ≤ 100 ∧ c.states.length ≤ 100 ∧ c.sent.length ≤ 100 ∧ c.faulty.length ≤ 100 := by
 unfold wideB at hw
 simp at hw
 omega
def plB (p : Pro) (c : Cfg) : Prop := inR c.states p.states.length ∧ 0 ≤ c.correct ∧ c.correct ≤ c.states.length
noncomputable instance decPl (p : Pro) (c : Cfg) : Decidable (plB p c) := Classical.propDecidable _
def trB (p : Pro) (c : Cfg) : Prop := p.topology = 4 → c.shape.length = c.states.length ∧ shp c.shape
noncomputable instance decTr (p : Pro) (c : Cfg) : Decidable (trB p c) := Classical.propDecidable _
def rchB (q : Prp) (c : Cfg) : Prop := ∀ j : Nat, (j : Int) < c.correct → c.states.getD j 0 ∈ q.goal
noncomputable instance decRch (q : Prp) (c : Cfg) : Decidable (rchB q c) := Classical.propDecidable _
theorem getD_take {l : List Int} {k n : Nat} (h : k < n) : (l.take n).getD k 0 = l.getD k 0 := by
 rw [gD, gD, List.getElem?_take, if_pos h]
def hitN (S L : List Int) : Nat := L.countP (fun x => decide (x ∈ S))
theorem setE_ok {l : List Int} {n : Int} (h : setE l n = 0) : inR l n ∧ incr l := by
 unfold setE at h
 by_cases h1 : inR l n
 ·rw [if_pos h1] at h
  by_cases h2 : incr l
  ·exact ⟨h1, h2⟩
  ·rw [if_neg h2] at h; omega
 ·rw [if_neg h1] at h; omega
theorem orL_zero : ∀ {l : List Int}, orL l = 0 → ∀ x ∈ l, x = 0
 |[], _, x, hx => by cases hx
 |a :: l, h, x, hx => by
  by_cases ha : a = 0
  ·rw [orL_z ha] at h
   rcases List.mem_cons.1 hx with rfl | hx
   ·exact ha
   ·exact orL_zero h x hx
  ·rw [orL_nz ha] at h; omega
theorem nb_lt {t : Int} {l : List Int} {n i : Nat} (hi : i < n) : nbF t l n i < n ∧ nbS t l n i < n := by
 unfold nbF nbS
 by_cases h2 : t = 2
 ·rw [if_pos h2, if_pos h2]; constructor
  ·omega
  ·split <;> omega
 ·rw [if_neg h2, if_neg h2]
  by_cases h3 : t = 3
  ·rw [if_pos h3, if_pos h3]; constructor <;> split <;> omega
  ·rw [if_neg h3, if_neg h3]
   by_cases h4 : t = 4 ∧ lkB t l n = true
   ·rw [if_pos h4, if_pos h4]
    obtain ⟨h5, h6⟩ := h4
    unfold lkB at h6
    rw [decide_eq_true_iff] at h6
    obtain ⟨h7, h8⟩ := h6 h5
    unfold firstT secondT
    by_cases h9 : l.getD i 0 = 2
    ·have := h7.two (by omega) h9
     rw [if_pos h9, if_pos h9]; constructor <;> omega
    ·rw [if_neg h9, if_neg h9]; constructor <;> omega
   ·rw [if_neg h4, if_neg h4]; constructor <;> omega
def nearB (c : Cfg) (x v : Int) : Prop := 0 ≤ x ∧ c.states.getD x.toNat 0 = v
def adB (p : Pro) (c : Cfg) (a b : Int) (i : Nat) : Prop := c.states.getD i 0 = a ∧ (nearB c (nbS p.topology c.shape c.states.length i) b ∨ (p.topology = 4 ∧ nearB c (nbF p.topology c.shape c.states.length i) b))
def adjB (p : Pro) (c : Cfg) (l : List Int) : Prop := ∃ i, i < c.states.length ∧ adB p c (l.getD 0 0) (l.getD 1 0) i
noncomputable instance decAdj (p : Pro) (c : Cfg) (l : List Int) : Decidable (adjB p c l) := Classical.propDecidable _
end Go.Proofs.YtjnjieabdjpfnabDoor
