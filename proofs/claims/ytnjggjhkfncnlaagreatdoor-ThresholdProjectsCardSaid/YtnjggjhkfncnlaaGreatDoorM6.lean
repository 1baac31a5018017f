import Derived.Test.YtnjggjhkfncnlaaGreatDoorM5
import Derived.Test.YtnjggjhkfncnlaaGreatDoorM4
set_option linter.unusedVariables false
set_option linter.unusedSimpArgs false
namespace Go.Proofs.YtnjggjhkfncnlaaGreatDoor
set_option maxRecDepth 100000
set_option maxHeartbeats 8000000
def cokB (q : Prp) (c : Cfg) : Prop:=∀ j, j < q.bad.length → (q.bad.getD j cnt0).least ≤ hitN (q.bad.getD j cnt0).states (c.states.take c.correct.toNat)
def badB (p : Pro) (q : Prp) (c : Cfg) : Prop:=cokB q c ∧ (q.adjacent.length = 0 ∨ adjB p c q.adjacent)
noncomputable instance decBad (p : Pro) (q : Prp) (c : Cfg) : Decidable (badB p q c):=Classical.propDecidable _
def cntS : Sh:=intsS (.int .nil)
def cntOf : Den cntS → Cnt
 |(a, b, _)=>⟨nums a, b⟩
section
variable {S : Store}
theorem cv_cnt (y : Den cntS) : CvL S (encS cntS y) (encCnt (cntOf y)):=by
 obtain ⟨a, b, ⟨⟩⟩:=y
 exact ⟨Cv.ints a, Cv.refl _ _, trivial⟩
theorem cv_cnts (l : List (Den cntS)) : Cv S (.sl (dflt cntS) (encS cntS) l) (.sl cnt0 encCnt (l.map cntOf)) :=
 Cv.sl (d:=dflt cntS) (enc:=encS cntS) cnt0 encCnt cntOf fun y _=>⟨cv_cnt y, rfl⟩
end
end Go.Proofs.YtnjggjhkfncnlaaGreatDoor
namespace Go.Proofs.YtnjggjhkfncnlaaGreatDoor
set_option maxRecDepth 100000
set_option maxHeartbeats 8000000
def lnkL (p : Pro) (c : Cfg) : List AV:=[.sl 0 encI ((List.range c.states.length).map (nbF p.topology c.shape c.states.length)), .sl 0 encI ((List.range c.states.length).map (nbS p.topology c.shape c.states.length)), .sl 0 encI ((List.range c.states.length).map (nbP p.topology c.shape c.states.length))]
def encV (p : Pro) (s : Siz) (c : Cfg) : List AV:=encP p ++ (encZ s ++ (encC c ++ lnkL p c))
theorem seeF (p : Pro) (s : Siz) (c : Cfg) (hw : wideB c = false) : PSpec Tryz.prog 122 [.agg (encP p), .agg (encZ s), .agg (encC c)] (fun u=>u = .agg (encV p s c)):=by
 have hc:=wide_le hw
 refine PSpec.intro tt_ok mx_ok Tryz.func122 rfl (by decide) ?_; (conv=>whnf)
 refine boxP rfl ?_
 conv=>whnf
 refine boxP rfl ?_
 conv=>whnf
 refine boxP rfl ?_
 conv=>whnf
 (refine oP (linkF p.topology c.shape c.states.length (by omega) (by omega)) ?_; conv=>whnf)
 exact ⟨rfl, rfl⟩
def cntM (p : Pro) (s : Siz) (c : Cfg) (m : Int) : Bool → Int
 |false=>c.sent.getD m.toNat 0 + (if p.fault = 1 ∨ p.fault = 2 then c.faulty.getD m.toNat 0 else if p.fault = 3 then s.f else 0)
 |true=>c.sent.getD m.toNat 0 + (if p.fault = 1 then c.faulty.getD m.toNat 0 else 0)
theorem cntM_b {p : Pro} {s : Siz} {c : Cfg} {m : Int} (f : Bool) (h1 : inR c.sent 1048577) (h2 : inR c.faulty 1048577) (hm : 0 ≤ m ∧ m < c.sent.length ∧ m < c.faulty.length) (hs : 0 ≤ s.f ∧ s.f ≤ 1048576) : 0 ≤ cntM p s c m f ∧ cntM p s c m f ≤ 2097152:=by
 have a1:=h1 m.toNat (by omega)
 have a2:=h2 m.toNat (by omega)
 cases f <;> unfold cntM <;> dsimp only <;> (repeat' split) <;> omega
theorem countedF (p : Pro) (s : Siz) (c : Cfg) (m : Int) (f : Bool) (h1 : inR c.sent 1048577) (h2 : inR c.faulty 1048577) (hm : 0 ≤ m ∧ m < c.sent.length ∧ m < c.faulty.length) (hs : 0 ≤ s.f ∧ s.f ≤ 1048576) : PSpec Tryz.prog 231 [.agg (encV p s c), .int .i64 m, .bool f] (fun u=>u = .int .i64 (cntM p s c m f)):=by
 have a1:=h1 m.toNat (by omega)
 have a2:=h2 m.toNat (by omega)
 cases f
 all_goals
  refine PSpec.intro tt_ok mx_ok Tryz.func231 rfl (by decide) ?_; (conv=>whnf)
  refine boxP rfl ?_
  conv=>whnf
  refine nI ?_
  conv=>whnf
  repeat' ((first|refine nI ?_|refine aI ?_|refine arU trivial (by omega) ?_|refine arB trivial (by omega) ?_|refine dI ?_|refine dR ?_|refine dP ?_|refine boxP rfl ?_|refine pI _ rfl ?_|refine rowSetI _ rfl ?_|refine tI ?_|refine fI ?_|refine cmpI (fun _=>?_) (fun _=>?_)) <;> conv=>whnf)
  all_goals
   refine ⟨av_int ?_, rfl⟩
   unfold cntM
   dsimp only
   (repeat' split) <;> omega
theorem heardR (p : Pro) (s : Siz) (c : Cfg) (m : Int) (f : Bool) (h1 : inR c.sent 1048577) (h2 : inR c.faulty 1048577) (hm : 0 ≤ m ∧ m < c.sent.length ∧ m < c.faulty.length) (hs : 0 ≤ s.f ∧ s.f ≤ 1048576) : PSpec Tryz.prog 237 [.agg (encP p), .agg (encZ s), .agg (encC c), .int .i64 m, .bool f] (fun u=>u = .int .i64 (cntM p s c m f)):=by
 have a1:=h1 m.toNat (by omega)
 have a2:=h2 m.toNat (by omega)
 cases f
 all_goals
  refine PSpec.intro tt_ok mx_ok Tryz.func237 rfl (by decide) ?_; (conv=>whnf)
  refine boxP rfl ?_
  conv=>whnf
  refine boxP rfl ?_
  conv=>whnf
  refine boxP rfl ?_
  conv=>whnf
  by_cases e1 : p.fault = 1
  ·repeat' ((first|refine nI ?_|refine aI ?_|refine tI ?_|refine fI ?_|fail);conv=>whnf)
   refine dI ?_
   conv=>whnf
   repeat' ((first|refine nI ?_|refine aI ?_|refine arU trivial (by omega) ?_|refine arB trivial (by omega) ?_|refine dI ?_|refine dR ?_|refine dP ?_|refine boxP rfl ?_|refine pI _ rfl ?_|refine rowSetI _ rfl ?_|refine tI ?_|refine fI ?_|refine cmpI (fun _=>?_) (fun _=>?_)) <;> conv=>whnf)
   all_goals
    refine ⟨av_int ?_, rfl⟩
    unfold cntM
    dsimp only
    (repeat' split) <;> omega
  by_cases e2 : p.fault = 2
  ·repeat' ((first|refine nI ?_|refine aI ?_|refine tI ?_|refine fI ?_|fail);conv=>whnf)
   all_goals try (refine dI ?_)
   all_goals
    conv=>whnf
    repeat' ((first|refine nI ?_|refine aI ?_|refine arU trivial (by omega) ?_|refine arB trivial (by omega) ?_|refine dI ?_|refine dR ?_|refine dP ?_|refine boxP rfl ?_|refine pI _ rfl ?_|refine rowSetI _ rfl ?_|refine tI ?_|refine fI ?_|refine cmpI (fun _=>?_) (fun _=>?_)) <;> conv=>whnf)
   all_goals
    refine ⟨av_int ?_, rfl⟩
    unfold cntM
    dsimp only
    (repeat' split) <;> omega
  by_cases e3 : p.fault = 3
  ·repeat' ((first|refine nI ?_|refine aI ?_|refine tI ?_|refine fI ?_|fail);conv=>whnf)
   all_goals try (refine dI ?_)
   all_goals
    conv=>whnf
    repeat' ((first|refine nI ?_|refine aI ?_|refine arU trivial (by omega) ?_|refine arB trivial (by omega) ?_|refine dI ?_|refine dR ?_|refine dP ?_|refine boxP rfl ?_|refine pI _ rfl ?_|refine rowSetI _ rfl ?_|refine tI ?_|refine fI ?_|refine cmpI (fun _=>?_) (fun _=>?_)) <;> conv=>whnf)
   all_goals
    refine ⟨av_int ?_, rfl⟩
    unfold cntM
    dsimp only
    (repeat' split) <;> omega
  ·repeat' ((first|refine nI ?_|refine aI ?_|refine tI ?_|refine fI ?_|fail);conv=>whnf)
   repeat' ((first|refine nI ?_|refine aI ?_|refine arU trivial (by omega) ?_|refine arB trivial (by omega) ?_|refine dI ?_|refine dR ?_|refine dP ?_|refine boxP rfl ?_|refine pI _ rfl ?_|refine rowSetI _ rfl ?_|refine tI ?_|refine fI ?_|refine cmpI (fun _=>?_) (fun _=>?_)) <;> conv=>whnf)
   all_goals
    refine ⟨av_int ?_, rfl⟩
    unfold cntM
    dsimp only
    (repeat' split) <;> omega
theorem indE_ok {i n : Int} (h : indE i n = 0) : 0 ≤ i ∧ i < n:=by
 unfold indE at h; split at h <;> omega
theorem valE_ok {m v : Int} (h : valE m v = 0) : -1 ≤ v ∧ v < m:=by
 unfold valE at h; split at h <;> omega
theorem gE_ok {m : Int} {g : Thr} (h : gE m g = 0) : (0 ≤ g.message ∧ g.message < m) ∧ (1 ≤ g.coef ∧ g.coef ≤ 100) ∧ bndB g.bound:=by
 have hz:=orL_zero h
 have h1:=hz (indE g.message m) (by simp)
 have h2:=hz (coefE g.coef) (by simp)
 have h3:=hz (bndE g.bound) (by simp)
 refine ⟨indE_ok h1, ?_, ?_⟩
 ·unfold coefE at h2; split at h2 <;> omega
 ·unfold bndE at h3; split at h3
  ·assumption
  ·omega
theorem guardsE_ok {m : Int} {l : List Thr} (h : guardsE m l = 0) : ∀ j, j < l.length → (0 ≤ (l.getD j thr0).message ∧ (l.getD j thr0).message < m) ∧ (1 ≤ (l.getD j thr0).coef ∧ (l.getD j thr0).coef ≤ 100) ∧ bndB (l.getD j thr0).bound:=by
 intro j hj
 unfold guardsE at h
 by_cases h1 : orL (l.map (gE m)) = 0
 ·exact gE_ok (orL_zero h1 _ (List.mem_map.2 ⟨_, by rw [gD, gL hj]; exact List.getElem_mem _, rfl⟩))
 ·rw [if_pos h1] at h; omega
structure RulOk (p : Pro) (r : Rul) : Prop where
 fit : fitB r.kind p.topology
 sur : ¬ surB r p.topology
 src : 0 ≤ r.src ∧ r.src < p.states.length
 dst : 0 ≤ r.dst ∧ r.dst < p.states.length
 kin : kindE p r = 0
theorem ruleE_ok {p : Pro} {i : Nat} {r : Rul} (h : ruleE p i r = 0) : RulOk p r:=by
 unfold ruleE at h
 by_cases h1 : ¬ validN r.name ∨ takenB p.rules i r
 ·rw [if_pos h1] at h; omega
 rw [if_neg h1] at h
 by_cases h2 : ¬ fitB r.kind p.topology ∨ surB r p.topology
 ·rw [if_pos h2] at h; omega
 rw [if_neg h2] at h
 have hz:=orL_zero h
 refine ⟨?_, fun hs=>h2 (.inr hs), indE_ok (hz _ (by simp)), indE_ok (hz _ (by simp)), hz _ (by simp)⟩
 by_cases hf : fitB r.kind p.topology
 ·exact hf
 ·exact absurd (.inl hf) h2
theorem valid_rule {p : Pro} (h : validE p = 0) {i : Nat} (hi : i < p.rules.length) : RulOk p (p.rules.getD i rul0):=by
 unfold validE at h
 have ht : tailE p = 0:=by
  (repeat' split at h) <;> first | exact h | omega
 have hz:=orL_zero ht (rulesE p) (by simp)
 refine ruleE_ok (i:=i) (orL_zero hz _ (List.mem_map.2 ⟨i, List.mem_range.2 hi, rfl⟩))
structure Rdy (p : Pro) (s : Siz) (c : Cfg) : Prop where
 big : ¬ bigP p
 wide : wideB c = false
 val : validE p = 0
 siz : inZ s
 sz : (1 ≤ s.n ∧ s.n ≤ 8) ∧ (0 ≤ s.f ∧ s.f ≤ s.n)
 adm : admB p s
 vc : VC p s c
theorem Rdy.of {p : Pro} {s : Siz} {c : Cfg} (hp : ¬ bigP p) (hw : wideB c = false) (h : vconE p s c = 0) : Rdy p s c:=by
 unfold vconE at h
 by_cases h1 : sizeE p s ≠ 0
 ·rw [if_pos h1] at h; omega
 rw [if_neg h1] at h
 have h2:=sizeE_ok (p:=p) (s:=s) (by omega)
 refine ⟨hp, hw, h2.1, by unfold inZ; omega, by omega, h2.2.1, ?_⟩
 unfold vcE at h
 by_cases h3 : VC p s c
 ·exact h3
 ·rw [if_neg h3] at h; omega
theorem Rdy.sent {p : Pro} {s : Siz} {c : Cfg} (h : Rdy p s c) : inR c.sent 1048577 ∧ inR c.faulty 1048577:=by
 refine ⟨h.vc.sen, fun j hj=>?_⟩
 have:=h.vc.fau j hj
 have e : whL p ≤ 1048576:=by unfold whL; split <;> omega
 omega
theorem evaluateR (l : Lin) (s : Siz) (hl : bndB l) (hs : inZ s) : PSpec Tryz.prog 82 [.agg (encLin l), .agg (encZ s)] (fun u=>u = .tup [.int .i64 (evalL l s), .int .i64 0]):=by
 have hs':=hs
 unfold inZ at hs'
 refine PSpec.intro tt_ok mx_ok Tryz.func82 rfl (by decide) ?_; (conv=>whnf)
 refine boxP rfl ?_
 conv=>whnf
 refine boxP rfl ?_
 conv=>whnf
 refine dC (fewR l) (fun _=>?_) (fun _=>?_) <;> (conv=>whnf)
 case refine_2=>rename_i h; exact absurd hl h
 refine dC (withinR _ _ _) (fun _=>?_) (fun _=>?_) <;> (conv=>whnf)
 case refine_2=>rename_i h; omega
 refine dC (withinR _ _ _) (fun _=>?_) (fun _=>?_) <;> (conv=>whnf)
 case refine_2=>rename_i h; omega
 refine dC (withinR _ _ _) (fun _=>?_) (fun _=>?_) <;> (conv=>whnf)
 case refine_2=>rename_i h; omega
 (refine oP (valueR l s hl hs) ?_; conv=>whnf)
 exact ⟨rfl, rfl⟩
def grdA (p : Pro) (s : Siz) (c : Cfg) (f : Bool) (g : Thr) : Prop:=evalL g.bound s ≤ g.coef * cntM p s c g.message f
def grdB (p : Pro) (s : Siz) (c : Cfg) (r : Rul) (f : Bool) : Prop:=∀ j, j < r.guards.length → grdA p s c f (r.guards.getD j thr0)
noncomputable instance decGrd (p : Pro) (s : Siz) (c : Cfg) (r : Rul) (f : Bool) : Decidable (grdB p s c r f):=Classical.propDecidable _
theorem mul_c {a b : Int} (ha : 1 ≤ a ∧ a ≤ 100) (hb : 0 ≤ b ∧ b ≤ 2097152) : 0 ≤ a * b ∧ a * b ≤ 209715200:=by
 have h1 : 0 ≤ a * b:=Int.mul_nonneg (by omega) hb.1
 have h2 : a * b ≤ 100 * 2097152:=Int.mul_le_mul (by omega) hb.2 hb.1 (by omega)
 omega
theorem guardsV (p : Pro) (s : Siz) (c : Cfg) (r : Rul) (f : Bool) (h : Rdy p s c) (hr : ¬ bigR r) (hg : guardsE p.messages.length r.guards = 0) : PSpec Tryz.prog 198 [.agg (encV p s c), .agg (encR r), .bool f] (fun u=>u = .bool (decide (grdB p s c r f))):=by
 have hle:=bigP_le h.big
 have hbr:=bigR_le hr
 have hgs:=guardsE_ok hg
 have hsn:=h.vc.snl
 have hfa:=h.vc.fal
 have hz:=h.siz
 unfold inZ at hz
 refine PSpec.intro tt_ok mx_ok Tryz.func198 rfl (by decide) ?_; (conv=>whnf)
 refine boxP rfl ?_
 conv=>whnf
 refine boxP rfl ?_
 conv=>whnf
 refine WPc.loopF tt_ok mx_ok (fun k : Nat=>k ≤ r.guards.length ∧ ∀ j, j < k → grdA p s c f (r.guards.getD j thr0)) (fun k=>[(14, .int .i64 (k : Int))]) (fun _=>[]) (fun k=>r.guards.length - k) 0 ⟨by omega, fun j hj=>by omega⟩ ?_; conv=>whnf
 refine ⟨sI, ?_⟩
 rintro k ⟨hk, ha⟩
 conv=>whnf
 refine cmpI ?_ ?_ <;> (intro h1; conv=>whnf)
 ·obtain ⟨g1, g2, g3⟩:=hgs k (by omega)
  have nok : ¬ grdA p s c f (r.guards.getD k thr0) → ¬ grdB p s c r f:=fun hn hb=>hn (hb k (by omega))
  have next : grdA p s c f (r.guards.getD k thr0) → ∀ j, j < k + 1 → grdA p s c f (r.guards.getD j thr0):=fun hn j hj=>by
   by_cases e : j = k
   ·subst e; exact hn
   ·exact ha j (by omega)
  refine nI ?_
  rw [tN]
  generalize r.guards.getD k thr0 = g at g1 g2 g3 nok next
  have hb:=cntM_b (p:=p) (s:=s) (c:=c) (m:=g.message) f h.sent.1 h.sent.2 (by omega) (by omega)
  have hm:=mul_c g2 hb
  conv=>whnf
  (refine oP (evaluateF g.bound s g3 h.siz) ?_; conv=>whnf)
  refine dI ?_
  conv=>whnf
  (refine oC (countedF p s c g.message f h.sent.1 h.sent.2 (by omega) (by omega)) ?_; conv=>whnf)
  repeat' ((first|refine nI ?_|refine aI ?_|refine tI ?_|refine fI ?_|fail);conv=>whnf)
  refine cmpI ?_ ?_ <;> (intro h2; conv=>whnf)
  ·exact ⟨dec_f (nok (by unfold grdA; omega)), rfl⟩
  ·repeat' ((first|refine nI ?_|refine aI ?_|refine tI ?_|refine fI ?_|fail);conv=>whnf)
   exact ⟨k + 1, sI, ⟨by omega, next (by unfold grdA; omega)⟩, by dsimp only; omega⟩
 ·exact ⟨dec_t (fun j hj=>ha j (by omega)), rfl⟩
def exK (c : Cfg) (l : List Int) (i : Int) (k : Nat) : Prop:=l.length = 0 ∨ ∃ j, j < k ∧ (j : Int) ≠ i ∧ c.states.getD j 0 ∈ l
def faK (c : Cfg) (l : List Int) (i : Int) (k : Nat) : Prop:=l.length = 0 ∨ ∀ j, j < k → (j : Int) ≠ i → c.states.getD j 0 ∈ l
def othB (c : Cfg) (r : Rul) (i : Int) : Prop:=exK c r.some_ i c.states.length ∧ faK c r.forall_ i c.states.length
noncomputable instance decOth (c : Cfg) (r : Rul) (i : Int) : Decidable (othB c r i):=Classical.propDecidable _
section
variable {c : Cfg} {l : List Int} {i : Int} {k : Nat}
theorem exK_zero : exK c l i 0 ↔ l.length = 0:=⟨fun h=>h.elim id (fun ⟨j, hj, _⟩=>by omega), .inl⟩
theorem faK_zero : faK c l i 0:=.inr fun j hj=>by omega
theorem exK_skip (h : (k : Int) = i) : exK c l i (k + 1) ↔ exK c l i k :=
 ⟨fun h1=>h1.elim .inl (fun ⟨j, hj, hn, hm⟩=>.inr ⟨j, by omega, hn, hm⟩), fun h1=>h1.elim .inl (fun ⟨j, hj, hn, hm⟩=>.inr ⟨j, by omega, hn, hm⟩)⟩
theorem faK_skip (h : (k : Int) = i) : faK c l i (k + 1) ↔ faK c l i k :=
 ⟨fun h1=>h1.elim .inl (fun h2=>.inr fun j hj hn=>h2 j (by omega) hn), fun h1=>h1.elim .inl (fun h2=>.inr fun j hj hn=>h2 j (by omega) hn)⟩
theorem exK_old (h : exK c l i k) : exK c l i (k + 1):=h.elim .inl (fun ⟨j, hj, hn, hm⟩=>.inr ⟨j, by omega, hn, hm⟩)
theorem exK_new (h : (k : Int) ≠ i) (hm : c.states.getD k 0 ∈ l) : exK c l i (k + 1):=.inr ⟨k, by omega, h, hm⟩
theorem exK_no (h : ¬ exK c l i k) (hm : c.states.getD k 0 ∉ l) : ¬ exK c l i (k + 1):=fun h1=>h1.elim (fun e=>h (.inl e)) (fun ⟨j, hj, hn, hmm⟩=>by
 by_cases e : j = k
 ·subst e; exact hm hmm
 ·exact h (.inr ⟨j, by omega, hn, hmm⟩))
theorem faK_old (h : ¬ faK c l i k) : ¬ faK c l i (k + 1):=fun h1=>h (h1.elim .inl (fun h2=>.inr fun j hj hn=>h2 j (by omega) hn))
theorem faK_nil (h : l.length = 0) : faK c l i k:=.inl h
theorem faK_new (h : faK c l i k) (hm : c.states.getD k 0 ∈ l) : faK c l i (k + 1):=h.elim .inl (fun h2=>.inr fun j hj hn=>by
 by_cases e : j = k
 ·subst e; exact hm
 ·exact h2 j (by omega) hn)
theorem faK_no (h0 : ¬ l.length = 0) (h : (k : Int) ≠ i) (hm : c.states.getD k 0 ∉ l) : ¬ faK c l i (k + 1):=fun h1=>h1.elim h0 (fun h2=>hm (h2 k (by omega) h))
end
theorem iffT {p : Prop} (h : p) : (true = true ↔ p):=⟨fun _=>h, fun _=>rfl⟩
theorem iffF {p : Prop} (h : ¬ p) : (false = true ↔ p):=⟨fun e=>(by cases e), fun e=>absurd e h⟩
theorem nIff {p : Prop} (h : false = true ↔ p) : ¬ p:=fun hp=>by have:=h.2 hp; cases this
theorem othersV (p : Pro) (s : Siz) (c : Cfg) (r : Rul) (i : Int) (hw : wideB c = false) (hr : ¬ bigR r) : PSpec Tryz.prog 199 [.agg (encV p s c), .agg (encR r), .int .i64 i] (fun u=>u = .bool (decide (othB c r i))):=by
 have hbr:=bigR_le hr
 have hc:=wide_le hw
 refine PSpec.intro tt_ok mx_ok Tryz.func199 rfl (by decide) ?_; (conv=>whnf)
 refine boxP rfl ?_
 conv=>whnf
 refine boxP rfl ?_
 conv=>whnf
 refine cmpD ?_
 conv=>whnf
 refine WPc.loopF tt_ok mx_ok (fun x : Nat × Bool × Bool=>x.1 ≤ c.states.length ∧ (x.2.1 = true ↔ exK c r.some_ i x.1) ∧ (x.2.2 = true ↔ faK c r.forall_ i x.1)) (fun x=>[(19, .int .i64 (x.1 : Int)), (7, .bool x.2.1), (8, .bool x.2.2)]) (fun _=>[]) (fun x=>c.states.length - x.1) (0, decide ((r.some_.length : Int) = 0), true) ⟨Nat.zero_le _, by rw [exK_zero, decide_eq_true_iff]; omega, iffT faK_zero⟩ ?_; conv=>whnf
 refine ⟨sI, ?_⟩
 rintro ⟨k, e, a⟩ ⟨hk, he, ha⟩
 dsimp only at hk he ha ⊢
 cases e <;> cases a
 all_goals
  conv=>whnf
  refine cmpI ?_ ?_ <;> (intro h1; conv=>whnf)
 case' false.false.refine_2=>exact ⟨dec_f (fun hh=>nIff he (by rw [show k = c.states.length by omega]; exact hh.1)), rfl⟩
 case' false.true.refine_2=>exact ⟨dec_f (fun hh=>nIff he (by rw [show k = c.states.length by omega]; exact hh.1)), rfl⟩
 case' true.false.refine_2=>exact ⟨dec_f (fun hh=>nIff ha (by rw [show k = c.states.length by omega]; exact hh.2)), rfl⟩
 case' true.true.refine_2=>exact ⟨dec_t ⟨by have:=he.1 rfl; rwa [show k = c.states.length by omega] at this, by have:=ha.1 rfl; rwa [show k = c.states.length by omega] at this⟩, rfl⟩
 all_goals
  refine nI ?_
  rw [tN]
  conv=>whnf
  refine cmpI ?_ ?_ <;> (intro h2; conv=>whnf)
  case refine_1 =>
   repeat' ((first|refine nI ?_|refine aI ?_|refine tI ?_|refine fI ?_|fail);conv=>whnf)
   exact ⟨(k + 1, _, _), sI, ⟨by dsimp only; omega, he.trans (exK_skip h2).symm, ha.trans (faK_skip h2).symm⟩, by dsimp only; omega⟩
 case' false.false.refine_1 =>
  refine dC (iContainsF r.some_ _ (by omega)) (fun _=>?_) (fun _=>?_) <;> (conv=>whnf)
  case' refine_1=>have hE:=iffT (exK_new h2 (by assumption))
  case' refine_2=>have hE:=iffF (exK_no (nIff he) (by assumption))
 case' false.true.refine_1 =>
  refine dC (iContainsF r.some_ _ (by omega)) (fun _=>?_) (fun _=>?_) <;> (conv=>whnf)
  case' refine_1=>have hE:=iffT (exK_new h2 (by assumption))
  case' refine_2=>have hE:=iffF (exK_no (nIff he) (by assumption))
 case' true.false.refine_1=>have hE:=iffT (exK_old (he.1 rfl))
 case' true.true.refine_1=>have hE:=iffT (exK_old (he.1 rfl))
 all_goals first
  |(refine cmpI ?_ ?_ <;> (intro h3; conv=>whnf)
    ·repeat' ((first|refine nI ?_|refine aI ?_|refine tI ?_|refine fI ?_|fail);conv=>whnf)
     exact ⟨(k + 1, _, _), sI, ⟨by dsimp only; omega, hE, iffT (faK_nil (by omega))⟩, by dsimp only; omega⟩
    ·refine dC (iContainsF r.forall_ _ (by omega)) (fun _=>?_) (fun _=>?_) <;> (conv=>whnf)
     ·rename_i h4
      repeat' ((first|refine nI ?_|refine aI ?_|refine tI ?_|refine fI ?_|fail);conv=>whnf)
      exact ⟨(k + 1, _, _), sI, ⟨by dsimp only; omega, hE, iffT (faK_new (ha.1 rfl) h4)⟩, by dsimp only; omega⟩
     ·rename_i h4
      repeat' ((first|refine nI ?_|refine aI ?_|refine tI ?_|refine fI ?_|fail);conv=>whnf)
      exact ⟨(k + 1, _, _), sI, ⟨by dsimp only; omega, hE, iffF (faK_no (by omega) h2 h4)⟩, by dsimp only; omega⟩)
  |(skip
    repeat' ((first|refine nI ?_|refine aI ?_|refine tI ?_|refine fI ?_|fail);conv=>whnf)
    exact ⟨(k + 1, _, _), sI, ⟨by dsimp only; omega, hE, iffF (faK_old (nIff ha))⟩, by dsimp only; omega⟩)
def demB (c : Cfg) (l : List Int) (x : Int) : Prop:=l.length = 0 ∨ (0 ≤ x ∧ c.states.getD x.toNat 0 ∈ l)
noncomputable instance decDem (c : Cfg) (l : List Int) (x : Int) : Decidable (demB c l x):=Classical.propDecidable _
theorem nearV (p : Pro) (s : Siz) (c : Cfg) (l : List Int) (x : Int) (hl : l.length ≤ 60) (hx : x < c.states.length) (hw : wideB c = false) : PSpec Tryz.prog 201 [.agg (encV p s c), .sl 0 encI l, .int .i64 x] (fun u=>u = .bool (decide (demB c l x))):=by
 have hc:=wide_le hw
 refine PSpec.intro tt_ok mx_ok Tryz.func201 rfl (by decide) ?_; (conv=>whnf)
 refine boxP rfl ?_
 conv=>whnf
 refine cmpI ?_ ?_ <;> (intro h1; conv=>whnf)
 ·exact ⟨dec_t (.inl (by omega)), rfl⟩
 refine cmpI ?_ ?_ <;> (intro h2; conv=>whnf)
 ·refine nI ?_
  conv=>whnf
  refine dC (iContainsF l _ (by omega)) (fun _=>?_) (fun _=>?_) <;> (conv=>whnf)
  ·rename_i h3; exact ⟨dec_t (.inr ⟨h2, h3⟩), rfl⟩
  ·rename_i h3; exact ⟨dec_f (fun h=>h.elim (by omega) (fun h=>h3 h.2)), rfl⟩
 ·exact ⟨dec_f (fun h=>h.elim (by omega) (fun h=>h2 h.1)), rfl⟩
theorem allowedR (c : Cfg) (l : List Int) (x : Int) (hl : l.length ≤ 60) (hx : x < c.states.length) (hw : wideB c = false) : PSpec Tryz.prog 221 [.agg (encC c), .sl 0 encI l, .int .i64 x] (fun u=>u = .bool (decide (demB c l x))):=by
 have hc:=wide_le hw
 refine PSpec.intro tt_ok mx_ok Tryz.func221 rfl (by decide) ?_; (conv=>whnf)
 refine boxP rfl ?_
 conv=>whnf
 refine cmpI ?_ ?_ <;> (intro h1; conv=>whnf)
 ·exact ⟨dec_t (.inl (by omega)), rfl⟩
 refine cmpI ?_ ?_ <;> (intro h2; conv=>whnf)
 ·refine nI ?_
  conv=>whnf
  refine dC (hasR l _ (by omega)) (fun _=>?_) (fun _=>?_) <;> (conv=>whnf)
  ·rename_i h3; exact ⟨dec_t (.inr ⟨h2, h3⟩), rfl⟩
  ·rename_i h3; exact ⟨dec_f (fun h=>h.elim (by omega) (fun h=>h3 h.2)), rfl⟩
 ·exact ⟨dec_f (fun h=>h.elim (by omega) (fun h=>h2 h.1)), rfl⟩
end Go.Proofs.YtnjggjhkfncnlaaGreatDoor
namespace Go.Proofs.YtnjggjhkfncnlaaGreatDoor
theorem shp.leaf {l : List Int} (h : shp l) {i : Nat} (hi : i < l.length) (h0 : l.getD i 0 = 0) : endAt l i = i + 1:=by
 obtain ⟨e, h3, h4⟩:=h.at hi
 rw [drop_cons hi, skipN_cons 0, if_pos h0, skipN_zero, Option.some.injEq] at e
 have:=congrArg List.length e
 simp only [List.length_drop] at this
 omega
theorem shp.root {l : List Int} (h : shp l) (hl : 0 < l.length) : endAt l 0 = l.length:=by
 obtain ⟨e, h3, h4⟩:=h.at hl
 rw [List.drop_zero, show skipN 1 l = some [] from h, Option.some.injEq] at e
 have:=congrArg List.length e
 simp only [List.length_drop, List.length_nil] at this
 omega
theorem shp.parAll {l : List Int} (h : shp l) : ∀ i, i < l.length → (0 < i → 0 ≤ parentT l i ∧ parentT l i < i) ∧ (endAt l i < l.length → 0 ≤ parentT l (endAt l i) ∧ parentT l (endAt l i) < i):=by
 intro i
 induction i using Nat.strongRecOn with
 |_ i ih =>
  intro hi
  have one : 0 < i → 0 ≤ parentT l i ∧ parentT l i < i:=by
   intro h0
   obtain ⟨j, rfl⟩ : ∃ j, i = j + 1:=⟨i - 1, by omega⟩
   rcases h.zeroTwo (i:=j) (by omega) with h2 | h2
   ·have e:=h.leaf (by omega) h2
    have:=(ih j (by omega) (by omega)).2 (by omega)
    rw [e] at this
    omega
   ·have:=parentT_first h (i:=j) (by omega) h2
    omega
  refine ⟨one, fun he=>?_⟩
  by_cases h0 : i = 0
  ·subst h0
   have:=h.root (by omega)
   omega
  ·obtain ⟨a, b⟩:=one (by omega)
   rcases parN_cases l i i with hc | ⟨k, hk, hc, hp⟩
   ·unfold parentT at a; omega
   ·simp only [isPar, Bool.and_eq_true, Bool.or_eq_true, decide_eq_true_eq] at hp
    obtain ⟨h2, hp⟩:=hp
    have ht:=h.two (i:=k) (by omega) h2
    rcases hp with hp | hp
    ·have:=parentT_second h (i:=k) (by omega) h2
     rw [hp] at this
     omega
    ·rw [hp] at ht
     have:=(ih k hk (by omega)).2 (by omega)
     rw [← ht.2.2.2.1] at this
     omega
theorem parentT_zero (l : List Int) : parentT l 0 = -1:=rfl
theorem nbP_b {t : Int} {l : List Int} {n i : Nat} (hi : i < n) : -1 ≤ nbP t l n i ∧ nbP t l n i < n:=by
 unfold nbP
 by_cases h : t = 4 ∧ lkB t l n = true
 ·rw [if_pos h]
  unfold parentT
  rcases parN_cases l i i with hc | ⟨k, hk, hc, _⟩ <;> omega
 ·rw [if_neg h]; omega
theorem lkB_of {t : Int} {l : List Int} {n : Nat} (h : t = 4) (hs : shp l) (hl : l.length = n) : lkB t l n = true:=by
 unfold lkB; rw [decide_eq_true_iff]; exact fun _=>⟨hs, hl⟩
set_option maxRecDepth 100000
set_option maxHeartbeats 8000000
structure Stp where
 rule : Int
 process : Int
 partner : Int
def encX (x : Stp) : List AV:=[.int .i64 x.rule, .int .i64 x.process, .int .i64 x.partner]
def stp0 : Stp:=⟨0, 0, 0⟩
def nF (p : Pro) (c : Cfg) (i : Nat) : Int:=nbF p.topology c.shape c.states.length i
def nS (p : Pro) (c : Cfg) (i : Nat) : Int:=nbS p.topology c.shape c.states.length i
def nP (p : Pro) (c : Cfg) (i : Nat) : Int:=nbP p.topology c.shape c.states.length i
def posB (p : Pro) (c : Cfg) (r : Rul) (i : Nat) : Prop:=(r.at_ = 1 → i = 0) ∧ (r.at_ = 2 → (p.topology = 2 → nS p c i = -1) ∧ (p.topology = 4 → nF p c i = -1))
noncomputable instance decPos (p : Pro) (c : Cfg) (r : Rul) (i : Nat) : Decidable (posB p c r i):=Classical.propDecidable _
def pasB (p : Pro) (c : Cfg) (r : Rul) (i : Nat) (j : Int) : Prop:=if r.direction = 1 then nS p c i = j else if r.direction = 2 then nF p c i = j else if r.direction = 3 then (nF p c i = j ∨ nS p c i = j) else nP p c i = j
noncomputable instance decPas (p : Pro) (c : Cfg) (r : Rul) (i : Nat) (j : Int) : Decidable (pasB p c r i j):=Classical.propDecidable _
def prtB (c : Cfg) (r : Rul) (x : Stp) : Prop:=0 ≤ x.partner ∧ x.partner < c.states.length ∧ x.partner ≠ x.process ∧ c.states.getD x.partner.toNat 0 = r.pfrom
def nbrB (p : Pro) (c : Cfg) (r : Rul) (i : Nat) : Prop:=posB p c r i ∧ demB c r.left (nF p c i) ∧ demB c r.right (nS p c i) ∧ demB c r.parent (nP p c i)
def kinB (p : Pro) (s : Siz) (c : Cfg) (r : Rul) (x : Stp) (f : Bool) : Prop :=
 if r.kind = 2 ∨ r.kind = 5 then prtB c r x ∧ (r.kind = 2 ∨ pasB p c r x.process.toNat x.partner)
 else x.partner = -1 ∧ (if r.kind = 1 then grdB p s c r f ∧ othB c r x.process else if r.kind = 3 then True else nbrB p c r x.process.toNat)
def enC (p : Pro) (s : Siz) (c : Cfg) (r : Rul) (x : Stp) (f : Bool) : Prop:=c.states.getD x.process.toNat 0 = r.src ∧ (r.read = -1 ∨ c.value = r.read) ∧ kinB p s c r x f
def enB (p : Pro) (s : Siz) (c : Cfg) (x : Stp) (f : Bool) : Prop:=((0 ≤ x.rule ∧ x.rule < p.rules.length) ∧ (0 ≤ x.process ∧ x.process < c.states.length)) ∧ enC p s c (p.rules.getD x.rule.toNat rul0) x f
noncomputable instance decEn (p : Pro) (s : Siz) (c : Cfg) (x : Stp) (f : Bool) : Decidable (enB p s c x f):=Classical.propDecidable _
theorem validE_top {p : Pro} (h : validE p = 0) : 1 ≤ p.topology ∧ p.topology ≤ 4:=by
 unfold validE at h
 by_cases h1 : ¬ validN p.name
 ·rw [if_pos h1] at h; omega
 rw [if_neg h1] at h
 by_cases h2 : p.topology < 1 ∨ 4 < p.topology ∨ p.fault < 0 ∨ 3 < p.fault
 ·rw [if_pos h2] at h; omega
 ·omega
theorem validE_noc {p : Pro} (h : validE p = 0) (ht : p.topology ≠ 1) : p.messages.length = 0 ∧ p.values.length = 0 ∧ p.resilience.length = 0 ∧ p.fault = 0:=by
 unfold validE at h
 (repeat' split at h) <;> omega
theorem RulOk.read {p : Pro} {r : Rul} (h : RulOk p r) : -1 ≤ r.read ∧ -1 ≤ r.write ∧ r.read < p.values.length ∧ r.write < p.values.length:=by
 have hk:=h.kin
 have hs:=h.sur
 have hf:=h.fit
 unfold fitB at hf
 unfold kindE at hk
 by_cases k1 : r.kind = 1
 ·rw [if_pos k1] at hk
  have hz:=orL_zero hk
  have a:=valE_ok (hz (valE p.values.length r.read) (by simp))
  have b:=valE_ok (hz (valE p.values.length r.write) (by simp))
  omega
 rw [if_neg k1] at hk
 by_cases k2 : r.kind = 2
 ·rw [if_pos k2] at hk
  have hz:=orL_zero hk
  have a:=valE_ok (hz (valE p.values.length r.read) (by simp))
  have b:=valE_ok (hz (valE p.values.length r.write) (by simp))
  omega
 rw [if_neg k2] at hk
 by_cases k3 : r.kind = 3
 ·rw [if_pos k3] at hk
  have hz:=orL_zero hk
  have a:=valE_ok (hz (valE p.values.length r.read) (by simp))
  have b:=valE_ok (hz (valE p.values.length r.write) (by simp))
  omega
 ·unfold surB at hs
  omega
theorem RulOk.guards {p : Pro} {r : Rul} (h : RulOk p r) (hk : r.kind = 1) : guardsE p.messages.length r.guards = 0:=by
 have:=h.kin
 unfold kindE at this
 rw [if_pos hk] at this
 exact orL_zero this _ (by simp)
theorem RulOk.at4 {p : Pro} {r : Rul} (h : RulOk p r) (hk : r.kind = 4) : atE r.at_ p.topology = 0:=by
 have:=h.kin
 unfold kindE at this
 rw [if_neg (by omega), if_neg (by omega), if_neg (by omega), if_pos hk] at this
 exact orL_zero this _ (by simp)
theorem pos_eq {p : Pro} {s : Siz} {c : Cfg} {r : Rul} {i : Nat} (h : Rdy p s c) (hr : RulOk p r) (hk : r.kind = 4) (hi : i < c.states.length) :
  posB p c r i ↔ (r.at_ = 0 ∨ (r.at_ = 1 ∧ p.topology = 4 ∧ nP p c i < 0) ∨ (r.at_ = 1 ∧ p.topology ≠ 4 ∧ nF p c i < 0) ∨ (r.at_ ≠ 0 ∧ r.at_ ≠ 1 ∧ nS p c i < 0)):=by
 have hat:=hr.at4 hk
 have ht:=validE_top h.val
 have hf:=hr.fit
 unfold fitB at hf
 unfold atE at hat
 have hat2 : (r.at_ = 0 ∨ r.at_ = 1 ∨ r.at_ = 2) ∧ (r.at_ ≠ 0 → p.topology ≠ 3):=by
  split at hat <;> omega
 have htop : p.topology = 2 ∨ p.topology = 3 ∨ p.topology = 4:=by omega
 have lin : p.topology = 2 → nF p c i = (i : Int) - 1 ∧ nS p c i = if i + 1 = c.states.length then -1 else (i : Int) + 1:=fun e=>by
  unfold nF nS nbF nbS
  rw [if_pos e, if_pos e]
  exact ⟨rfl, rfl⟩
 have tre : p.topology = 4 → nF p c i = firstT c.shape i ∧ nS p c i = secondT c.shape i ∧ nP p c i = parentT c.shape i ∧ (i = 0 ↔ parentT c.shape i < 0):=fun e=>by
  obtain ⟨e1, e2⟩:=h.vc.tre e
  have e3:=h.vc.len
  have hlen : c.shape.length = c.states.length:=by
   unfold modN at e3
   have:=validE_noc h.val (by omega)
   rw [if_neg (by omega)] at e3
   omega
  have hl:=lkB_of e e2 hlen
  unfold nF nS nP nbF nbS nbP
  rw [if_neg (by omega), if_neg (by omega), if_pos ⟨e, hl⟩, if_neg (by omega), if_neg (by omega), if_pos ⟨e, hl⟩, if_pos ⟨e, hl⟩]
  refine ⟨rfl, rfl, rfl, ?_⟩
  constructor
  ·intro e0; subst e0; rw [parentT_zero]; omega
  ·intro hlt
   by_cases e0 : i = 0
   ·exact e0
   ·have:=(e2.parAll i (by omega)).1 (by omega)
    omega
 unfold posB
 rcases htop with e | e | e
 ·obtain ⟨a, b⟩:=lin e
  by_cases e1 : i + 1 = c.states.length
  ·rw [if_pos e1] at b; constructor <;> intro hh <;> omega
  ·rw [if_neg e1] at b; constructor <;> intro hh <;> omega
 ·constructor <;> intro hh <;> omega
 ·obtain ⟨a, b, d, g⟩:=tre e
  unfold firstT at a
  unfold secondT at b
  by_cases e1 : c.shape.getD i 0 = 2
  ·rw [if_pos e1] at a b; constructor <;> intro hh <;> omega
  ·rw [if_neg e1] at a b; constructor <;> intro hh <;> omega
theorem positionV (p : Pro) (s : Siz) (c : Cfg) (r : Rul) (i : Nat) (h : Rdy p s c) (hr : RulOk p r) (hk : r.kind = 4) (hi : i < c.states.length) : PSpec Tryz.prog 200 [.agg (encV p s c), .agg (encR r), .int .i64 (i : Int)] (fun u=>u = .bool (decide (posB p c r i))):=by
 have hpe:=pos_eq h hr hk hi
 have f1 : ((List.range c.states.length).map (nbF p.topology c.shape c.states.length)).length = c.states.length:=by simp
 have f2 : ((List.range c.states.length).map (nbS p.topology c.shape c.states.length)).length = c.states.length:=by simp
 have f3 : ((List.range c.states.length).map (nbP p.topology c.shape c.states.length)).length = c.states.length:=by simp
 unfold nF nS nP at hpe
 refine PSpec.intro tt_ok mx_ok Tryz.func200 rfl (by decide) ?_; (conv=>whnf)
 refine boxP rfl ?_
 conv=>whnf
 refine boxP rfl ?_
 conv=>whnf
 refine cmpI ?_ ?_ <;> (intro h1; conv=>whnf)
 ·exact ⟨dec_t (hpe.2 (.inl h1)), rfl⟩
 by_cases h2 : r.at_ = 1
 ·by_cases h3 : p.topology = 4
  ·repeat' ((first|refine nI ?_|refine aI ?_|refine tI ?_|refine fI ?_|fail);conv=>whnf)
   rw [tN, getD_map_range _ _ _ hi]
   refine cmpI ?_ ?_ <;> (intro h4; conv=>whnf)
   ·exact ⟨dec_t (hpe.2 (by omega)), rfl⟩
   ·exact ⟨dec_f (fun hh=>by have:=hpe.1 hh; omega), rfl⟩
  ·repeat' ((first|refine nI ?_|refine aI ?_|refine tI ?_|refine fI ?_|fail);conv=>whnf)
   rw [tN, getD_map_range _ _ _ hi]
   refine cmpI ?_ ?_ <;> (intro h4; conv=>whnf)
   ·exact ⟨dec_t (hpe.2 (by omega)), rfl⟩
   ·exact ⟨dec_f (fun hh=>by have:=hpe.1 hh; omega), rfl⟩
 ·by_cases h3 : p.topology = 4
  all_goals
   repeat' ((first|refine nI ?_|refine aI ?_|refine tI ?_|refine fI ?_|fail);conv=>whnf)
   rw [tN, getD_map_range _ _ _ hi]
   refine cmpI ?_ ?_ <;> (intro h4; conv=>whnf)
   ·exact ⟨dec_t (hpe.2 (by omega)), rfl⟩
   ·exact ⟨dec_f (fun hh=>by have:=hpe.1 hh; omega), rfl⟩
theorem passesV (p : Pro) (s : Siz) (c : Cfg) (r : Rul) (i : Nat) (j : Int) (hi : i < c.states.length) : PSpec Tryz.prog 197 [.agg (encV p s c), .agg (encR r), .int .i64 (i : Int), .int .i64 j] (fun u=>u = .bool (decide (pasB p c r i j))):=by
 have f1 : ((List.range c.states.length).map (nbF p.topology c.shape c.states.length)).length = c.states.length:=by simp
 have f2 : ((List.range c.states.length).map (nbS p.topology c.shape c.states.length)).length = c.states.length:=by simp
 have f3 : ((List.range c.states.length).map (nbP p.topology c.shape c.states.length)).length = c.states.length:=by simp
 have he : pasB p c r i j = (if r.direction = 1 then nbS p.topology c.shape c.states.length i = j else if r.direction = 2 then nbF p.topology c.shape c.states.length i = j else if r.direction = 3 then (nbF p.topology c.shape c.states.length i = j ∨ nbS p.topology c.shape c.states.length i = j) else nbP p.topology c.shape c.states.length i = j):=rfl
 refine PSpec.intro tt_ok mx_ok Tryz.func197 rfl (by decide) ?_; (conv=>whnf)
 refine boxP rfl ?_
 conv=>whnf
 refine boxP rfl ?_
 conv=>whnf
 by_cases h1 : r.direction = 1
 ·rw [if_pos h1] at he
  repeat' ((first|refine nI ?_|refine aI ?_|refine tI ?_|refine fI ?_|fail);conv=>whnf)
  rw [tN, getD_map_range _ _ _ hi]
  refine cmpI ?_ ?_ <;> (intro h4; conv=>whnf)
  ·exact ⟨dec_t (by rw [he]; exact h4), rfl⟩
  ·exact ⟨dec_f (by rw [he]; exact h4), rfl⟩
 rw [if_neg h1] at he
 by_cases h2 : r.direction = 2
 ·rw [if_pos h2] at he
  repeat' ((first|refine nI ?_|refine aI ?_|refine tI ?_|refine fI ?_|fail);conv=>whnf)
  rw [tN, getD_map_range _ _ _ hi]
  refine cmpI ?_ ?_ <;> (intro h4; conv=>whnf)
  ·exact ⟨dec_t (by rw [he]; exact h4), rfl⟩
  ·exact ⟨dec_f (by rw [he]; exact h4), rfl⟩
 rw [if_neg h2] at he
 by_cases h3 : r.direction = 3
 ·rw [if_pos h3] at he
  repeat' ((first|refine nI ?_|refine aI ?_|refine tI ?_|refine fI ?_|fail);conv=>whnf)
  rw [tN, getD_map_range _ _ _ hi]
  refine cmpI ?_ ?_ <;> (intro h4; conv=>whnf)
  ·exact ⟨dec_t (by rw [he]; exact .inl h4), rfl⟩
  refine nI ?_
  rw [tN, getD_map_range _ _ _ hi]
  conv=>whnf
  refine cmpI ?_ ?_ <;> (intro h5; conv=>whnf)
  ·exact ⟨dec_t (by rw [he]; exact .inr h5), rfl⟩
  ·exact ⟨dec_f (by rw [he]; exact fun h=>h.elim h4 h5), rfl⟩
 ·rw [if_neg h3] at he
  repeat' ((first|refine nI ?_|refine aI ?_|refine tI ?_|refine fI ?_|fail);conv=>whnf)
  rw [tN, getD_map_range _ _ _ hi]
  refine cmpI ?_ ?_ <;> (intro h4; conv=>whnf)
  ·exact ⟨dec_t (by rw [he]; exact h4), rfl⟩
  ·exact ⟨dec_f (by rw [he]; exact h4), rfl⟩
end Go.Proofs.YtnjggjhkfncnlaaGreatDoor
