import Derived.Test.YtaeomngmcfdfpaaGreatDoorA1
import Derived.Test.YtaeomngmcfdfpaaGreatDoorM8
import Derived.Test.YtaeomngmcfdfpaaGreatDoorM6
set_option linter.unusedVariables false
set_option linter.unusedSimpArgs false
namespace Go.Proofs.YtaeomngmcfdfpaaGreatDoor
set_option maxRecDepth 100000
set_option maxHeartbeats 16000000
def swG (a b j : Nat) : Nat := if j = a then b else if j = b then a else j
def swI (a b : Nat) (i : Int) : Int := if i = a then b else if i = b then a else i
def swL (l : List Int) (a b : Nat) : List Int := (l.set a (l.getD b 0)).set b (l.getD a 0)
def swC (c : Cfg) (a b : Nat) : Cfg := ⟨c.shape, swL c.states a b, c.correct, c.sent, c.faulty, c.value⟩
def swX (x : Stp) (a b : Nat) : Stp := ⟨x.rule, swI a b x.process, swI a b x.partner⟩
theorem swL_len (l : List Int) (a b : Nat) : (swL l a b).length = l.length := by simp [swL]
theorem swL_get {l : List Int} {a b : Nat} (ha : a < l.length) (hb : b < l.length) (j : Nat) : (swL l a b).getD j 0 = l.getD (swG a b j) 0 := by
 unfold swL swG
 rw [getD_set, getD_set, List.length_set]
 by_cases h1 : b = j
 ·rw [if_pos ⟨h1, hb⟩]
  by_cases h2 : j = a
  ·rw [if_pos h2]
   have : a = b := by omega
   rw [this]
  ·rw [if_neg h2, if_pos h1.symm]
 ·rw [if_neg (fun h => h1 h.1)]
  by_cases h2 : a = j
  ·rw [if_pos ⟨h2, ha⟩, if_pos h2.symm]
  ·rw [if_neg (fun h => h2 h.1), if_neg (fun h => h2 h.symm), if_neg (fun h => h1 h.symm)]
theorem swG_swG (a b j : Nat) : swG a b (swG a b j) = j := by
 unfold swG
 (repeat' split) <;> omega
theorem swG_lt {a b n j : Nat} (ha : a < n) (hb : b < n) (h : j < n) : swG a b j < n := by
 unfold swG
 (repeat' split) <;> omega
theorem swI_iff (a b j : Nat) (i : Int) : ((j : Int) = swI a b i) ↔ ((swG a b j : Nat) : Int) = i := by
 unfold swI swG
 (repeat' split) <;> omega
theorem swI_lt {a b : Nat} {n i : Int} (ha : (a : Int) < n) (hb : (b : Int) < n) : (swI a b i < n ↔ i < n) ∧ (0 ≤ swI a b i ↔ 0 ≤ i) ∧ (swI a b i = -1 ↔ i = -1) := by
 unfold swI
 (repeat' split) <;> omega
theorem swI_toNat {a b : Nat} {i : Int} (h : 0 ≤ i) : swG a b (swI a b i).toNat = i.toNat := by
 unfold swI swG
 (repeat' split) <;> omega
theorem swI_inj {a b : Nat} {i j : Int} : swI a b i = swI a b j ↔ i = j := by
 unfold swI
 (repeat' split) <;> omega
theorem sw_get {c : Cfg} {a b : Nat} (ha : a < c.states.length) (hb : b < c.states.length) {i : Int} (h : 0 ≤ i) : (swC c a b).states.getD (swI a b i).toNat 0 = c.states.getD i.toNat 0 := by
 show (swL c.states a b).getD _ 0 = _
 rw [swL_get ha hb, swI_toNat h]
theorem sw_ex {c : Cfg} {a b : Nat} (ha : a < c.states.length) (hb : b < c.states.length) (l : List Int) (i : Int) : exK (swC c a b) l (swI a b i) (swC c a b).states.length ↔ exK c l i c.states.length := by
 have e : (swC c a b).states.length = c.states.length := swL_len _ _ _
 unfold exK
 rw [e]
 constructor
 ·rintro (h | ⟨j, h1, h2, h3⟩)
  ·exact .inl h
  ·refine .inr ⟨swG a b j, swG_lt ha hb h1, fun h => h2 ((swI_iff a b j i).2 h), ?_⟩
   rw [← swL_get ha hb]
   exact h3
 ·rintro (h | ⟨j, h1, h2, h3⟩)
  ·exact .inl h
  ·refine .inr ⟨swG a b j, swG_lt ha hb h1, fun h => h2 ?_, ?_⟩
   ·have := (swI_iff a b (swG a b j) i).1 h
    rwa [swG_swG] at this
   ·show (swL c.states a b).getD _ 0 ∈ l
    rw [swL_get ha hb, swG_swG]
    exact h3
theorem sw_fa {c : Cfg} {a b : Nat} (ha : a < c.states.length) (hb : b < c.states.length) (l : List Int) (i : Int) : faK (swC c a b) l (swI a b i) (swC c a b).states.length ↔ faK c l i c.states.length := by
 have e : (swC c a b).states.length = c.states.length := swL_len _ _ _
 unfold faK
 rw [e]
 constructor
 ·rintro (h | h)
  ·exact .inl h
  ·refine .inr fun j h1 h2 => ?_
   have := h (swG a b j) (swG_lt ha hb h1) (fun h => h2 (by
    have := (swI_iff a b (swG a b j) i).1 h
    rwa [swG_swG] at this))
   have e2 : (swL c.states a b).getD (swG a b j) 0 = c.states.getD j 0 := by rw [swL_get ha hb, swG_swG]
   rw [← e2]
   exact this
 ·rintro (h | h)
  ·exact .inl h
  ·refine .inr fun j h1 h2 => ?_
   have := h (swG a b j) (swG_lt ha hb h1) (fun h => h2 ((swI_iff a b j i).2 h))
   show (swL c.states a b).getD _ 0 ∈ l
   rw [swL_get ha hb]
   exact this
theorem sw_en {p : Pro} {s : Siz} {c : Cfg} {x : Stp} {a b : Nat} (h : Rdy p s c) (ht : p.topology = 1) (ha : a < c.states.length) (hb : b < c.states.length) : enB p s (swC c a b) (swX x a b) false ↔ enB p s c x false := by
 have e : (swC c a b).states.length = c.states.length := swL_len _ _ _
 have l1 := swI_lt (a := a) (b := b) (n := (c.states.length : Int)) (i := x.process) (by omega) (by omega)
 have l2 := swI_lt (a := a) (b := b) (n := (c.states.length : Int)) (i := x.partner) (by omega) (by omega)
 unfold enB
 rw [e]
 show ((0 ≤ x.rule ∧ x.rule < p.rules.length) ∧ (0 ≤ swI a b x.process ∧ swI a b x.process < c.states.length)) ∧ enC p s (swC c a b) (p.rules.getD x.rule.toNat rul0) (swX x a b) false ↔ _
 rw [l1.1, l1.2.1]
 refine and_congr_right fun hin => ?_
 have hR := valid_rule h.val (i := x.rule.toNat) (by omega)
 generalize p.rules.getD x.rule.toNat rul0 = r at hR ⊢
 have hfit := hR.fit
 rw [ht] at hfit
 unfold fitB at hfit
 have hk : r.kind = 1 ∨ r.kind = 2 ∨ r.kind = 3 := by omega
 unfold enC
 rw [show (swX x a b).process = swI a b x.process from rfl, sw_get ha hb hin.2.1]
 refine and_congr_right fun _ => and_congr_right fun _ => ?_
 unfold kinB
 rw [show (swX x a b).process = swI a b x.process from rfl, show (swX x a b).partner = swI a b x.partner from rfl]
 by_cases h2 : r.kind = 2 ∨ r.kind = 5
 ·rw [if_pos h2, if_pos h2]
  have h3 : r.kind = 2 := by omega
  simp only [h3, true_or, and_true]
  unfold prtB
  rw [show (swX x a b).process = swI a b x.process from rfl, show (swX x a b).partner = swI a b x.partner from rfl, e, l2.1, l2.2.1]
  refine and_congr_right fun g1 => and_congr_right fun g2 => ?_
  rw [sw_get ha hb g1]
  refine and_congr (not_congr swI_inj) Iff.rfl
 ·rw [if_neg h2, if_neg h2, l2.2.2]
  refine and_congr_right fun _ => ?_
  by_cases h3 : r.kind = 1
  ·rw [if_pos h3, if_pos h3]
   refine and_congr Iff.rfl ?_
   unfold othB
   exact and_congr (sw_ex ha hb _ _) (sw_fa ha hb _ _)
  ·rw [if_neg h3, if_neg h3, if_pos (by omega), if_pos (by omega)]
theorem sw_st {c : Cfg} {r : Rul} {x : Stp} {a b j : Nat} (ha : a < c.states.length) (hb : b < c.states.length) : stG (swC c a b) r (swX x a b) j = stG c r x (swG a b j) := by
 unfold stG
 rw [show (swX x a b).process = swI a b x.process from rfl, show (swX x a b).partner = swI a b x.partner from rfl, show (swC c a b).states = swL c.states a b from rfl, swL_get ha hb]
 by_cases h1 : (j : Int) = swI a b x.process
 ·rw [if_pos h1, if_pos ((swI_iff a b j _).1 h1)]
 rw [if_neg h1, if_neg (fun h => h1 ((swI_iff a b j _).2 h))]
 by_cases h2 : (r.kind = 2 ∨ r.kind = 5) ∧ (j : Int) = swI a b x.partner
 ·rw [if_pos h2, if_pos ⟨h2.1, (swI_iff a b j _).1 h2.2⟩]
 rw [if_neg h2, if_neg (c := (r.kind = 2 ∨ r.kind = 5) ∧ ((swG a b j : Nat) : Int) = x.partner) (fun h => h2 ⟨h.1, (swI_iff a b j _).2 h.2⟩)]
theorem sw_rdy {p : Pro} {s : Siz} {c : Cfg} {a b : Nat} (h : Rdy p s c) (ha : a < c.states.length) (hb : b < c.states.length) : Rdy p s (swC c a b) := by
 have hv := h.vc
 have e0 : (swC c a b).states.length = c.states.length := swL_len _ _ _
 have hw : wideB (swC c a b) = false := by
  have := h.wide
  unfold wideB at this ⊢
  rw [e0]
  exact this
 refine ⟨h.big, hw, h.val, h.siz, h.sz, h.adm, ⟨by rw [e0]; exact hv.len, fun j hj => ?_, hv.cor, hv.snl, hv.sen, hv.fal, hv.fau, hv.va0, hv.va1, hv.tre, hv.non⟩⟩
 rw [e0] at hj
 show 0 ≤ (swL c.states a b).getD j 0 ∧ (swL c.states a b).getD j 0 < _
 rw [swL_get ha hb]
 exact hv.sta _ (swG_lt ha hb hj)
def isI (p : Pro) (q : Prp) (s : Siz) (c : Cfg) : Prop := VC p s c ∧ c.value = 0 ∧ (∀ j, j < c.sent.length → c.sent.getD j 0 = 0 ∧ c.faulty.getD j 0 = 0) ∧ ∀ i, i < c.states.length → c.states.getD i 0 ∈ chF p q s i
noncomputable instance decIsI (p : Pro) (q : Prp) (s : Siz) (c : Cfg) : Decidable (isI p q s c) := Classical.propDecidable _
theorem chF_le {p : Pro} {q : Prp} (hp : ¬ bigP p) (hq : ¬ bigQ q) (s : Siz) (k : Nat) : (chF p q s k).length ≤ 1000 := by
 have hle := bigP_le hp
 have hlq := bigQ_le hq
 unfold chF stL
 (repeat' split) <;> omega
theorem isInitialR (p : Pro) (q : Prp) (s : Siz) (c : Cfg) (hp : ¬ bigP p) (hq : ¬ bigQ q) (hw : wideB c = false) (hz : sizeE p s = 0) : PSpec Tryz.prog 25 [.agg (encP p), .agg (encQ q), .agg (encZ s), .agg (encC c)] (fun u => u = .bool (decide (isI p q s c))) := by
 have hle := bigP_le hp
 have hc := wide_le hw
 have h2 := sizeE_ok hz
 refine PSpec.intro tt_ok mx_ok Tryz.func25 rfl (by decide) ?_; (conv => whnf)
 refine boxP rfl ?_
 conv => whnf
 refine boxP rfl ?_
 conv => whnf
 refine boxP rfl ?_
 conv => whnf
 refine boxP rfl ?_
 conv => whnf
 refine dC (validConfigR p s c hp hw (by omega)) (fun _ => ?_) (fun _ => ?_) <;> (conv => whnf)
 case refine_2 =>
  rename_i h3
  exact ⟨dec_f (fun h => h3 h.1), rfl⟩
 rename_i h3
 have hsf := h3.snl.trans h3.fal.symm
 refine cmpI ?_ ?_ <;> (intro h4; conv => whnf)
 ·exact ⟨dec_f (fun h => h4 h.2.1), rfl⟩
 refine WPc.loopF tt_ok mx_ok (fun k : Nat => k ≤ c.sent.length ∧ ∀ j, j < k → c.sent.getD j 0 = 0 ∧ c.faulty.getD j 0 = 0) (fun k => [(9, .int .i64 (k : Int))]) (fun _ => []) (fun k => c.sent.length - k) 0 ⟨by omega, fun j hj => by omega⟩ ?_; conv => whnf
 refine ⟨sI, ?_⟩
 rintro k ⟨hk, ha⟩
 conv => whnf
 refine cmpI ?_ ?_ <;> (intro g1; conv => whnf)
 ·refine nI ?_
  conv => whnf
  rw [tN]
  refine cmpI ?_ ?_ <;> (intro g2; conv => whnf)
  ·exact ⟨dec_f (fun h => g2 (h.2.2.1 k (by omega)).1), rfl⟩
  refine nI ?_
  conv => whnf
  rw [tN]
  refine cmpI ?_ ?_ <;> (intro g3; conv => whnf)
  ·exact ⟨dec_f (fun h => g3 (h.2.2.1 k (by omega)).2), rfl⟩
  repeat' ((first|refine nI ?_|refine aI ?_|refine tI ?_|refine fI ?_|fail);conv => whnf)
  refine ⟨k + 1, sI, ⟨by omega, fun j hj => ?_⟩, by dsimp only; omega⟩
  by_cases e : j = k
  ·subst e; exact ⟨by omega, by omega⟩
  ·exact ha j (by omega)
 have h5 : ∀ j, j < c.sent.length → c.sent.getD j 0 = 0 ∧ c.faulty.getD j 0 = 0 := fun j hj => ha j (by omega)
 clear ha hk g1
 refine WPc.loopF tt_ok mx_ok (fun i : Nat => i ≤ c.states.length ∧ ∀ j, j < i → c.states.getD j 0 ∈ chF p q s j) (fun i => [(10, .int .i64 (i : Int))]) (fun _ => []) (fun i => c.states.length - i) 0 ⟨by omega, fun j hj => by omega⟩ ?_; conv => whnf
 refine ⟨sI, ?_⟩
 rintro i ⟨hi, ha⟩
 conv => whnf
 refine cmpI ?_ ?_ <;> (intro g1; conv => whnf)
 ·have hcl := chF_le hp hq s i
  have hnx : c.states.getD i 0 ∈ chF p q s i → ∀ j, j < i + 1 → c.states.getD j 0 ∈ chF p q s j := fun h j hj => by
   by_cases e : j = i
   ·subst e; exact h
   ·exact ha j (by omega)
  have hno : c.states.getD i 0 ∉ chF p q s i → ¬ isI p q s c := fun h hh => h (hh.2.2.2 i (by omega))
  refine dI ?_
  conv => whnf
  (refine oC (choicesR p q s i hp hq (by omega)) ?_; conv => whnf)
  refine nI ?_
  conv => whnf
  rw [tN]
  refine dD (hasR (chF p q s i) _ (by omega)) (fun _ => ?_) (fun _ => ?_) <;> (conv => whnf)
  ·rename_i hm
   repeat' ((first|refine nI ?_|refine aI ?_|refine tI ?_|refine fI ?_|fail);conv => whnf)
   exact ⟨i + 1, sI, ⟨by omega, hnx hm⟩, by dsimp only; omega⟩
  ·rename_i hm
   exact ⟨dec_f (hno hm), rfl⟩
 ·exact ⟨dec_t ⟨h3, by omega, h5, fun j hj => ha j (by omega)⟩, rfl⟩
theorem sizQ_ok {p : Pro} {q : Prp} {s : Siz} (h : sizQ p q s = 0) : propE p q = 0 ∧ sizeE p s = 0 := by
 unfold sizQ at h
 by_cases h1 : propE p q ≠ 0
 ·rw [if_pos h1] at h; omega
 ·rw [if_neg h1] at h; exact ⟨by omega, h⟩
def vioB (p : Pro) (q : Prp) (s : Siz) (r : Rn) : Prop := sizQ p q s = 0 ∧ q.kind = 1 ∧ isI p q s r.start ∧ runOk p s r.start r.steps ∧ badB p q ((trs p r.start r.steps).getD r.steps.length cfg0)
noncomputable instance decVio (p : Pro) (q : Prp) (s : Siz) (r : Rn) : Decidable (vioB p q s r) := Classical.propDecidable _
theorem rdy_of {p : Pro} {s : Siz} {c : Cfg} (hp : ¬ bigP p) (hw : wideB c = false) (hz : sizeE p s = 0) (hv : VC p s c) : Rdy p s c :=
 Rdy.of hp hw (by
  have : vcE p s c = 0 := by unfold vcE; rw [if_pos hv]
  unfold vconE; rw [if_neg (by omega)]; exact this)
theorem Rdy.plain {p : Pro} {s : Siz} {c : Cfg} (h : Rdy p s c) : plB p c := by
 have hv := h.vc
 have hf := h.sz
 have hl := hv.len
 refine ⟨hv.sta, by rw [hv.cor]; omega, ?_⟩
 rw [hv.cor, hl]
 unfold modN
 split <;> omega
theorem IsViolationR (p : Pro) (q : Prp) (s : Siz) (r : Rn) (hp : ¬ bigP p) (hq : ¬ bigQ q) (hw : wideB r.start = false) (hl : r.steps.length ≤ 9000) : PSpec Tryz.prog 10 [.agg (encP p), .agg (encQ q), .agg (encZ s), .agg (encRn r)] (fun u => u = .bool (decide (vioB p q s r))) := by
 refine PSpec.intro tt_ok mx_ok Tryz.func10 rfl (by decide) ?_; (conv => whnf)
 refine boxP rfl ?_
 conv => whnf
 refine boxP rfl ?_
 conv => whnf
 refine boxP rfl ?_
 conv => whnf
 refine boxP rfl ?_
 conv => whnf
 (refine oP (sizedPropertyR p q s hp hq) ?_; conv => whnf)
 refine cmpI ?_ ?_ <;> (intro h1; conv => whnf)
 ·exact ⟨dec_f (fun h => h1 h.1), rfl⟩
 refine cmpI ?_ ?_ <;> (intro h2; conv => whnf)
 ·exact ⟨dec_f (fun h => h2 h.2.1), rfl⟩
 have hz := sizQ_ok (p := p) (q := q) (s := s) (by omega)
 refine dC (isInitialR p q s r.start hp hq hw hz.2) (fun _ => ?_) (fun _ => ?_) <;> (conv => whnf)
 case refine_2 =>
  rename_i h3
  exact ⟨dec_f (fun h => h3 h.2.2.1), rfl⟩
 rename_i h3
 have hR := rdy_of hp hw hz.2 h3.1
 have hA := replayR p s r.start r.steps hR (by omega)
 by_cases h4 : runOk p s r.start r.steps
 case neg =>
  obtain ⟨e, he, hr⟩ := rp_no (acc := [r.start]) h4
  rw [hr] at hA
  (refine oP (hA) ?_; conv => whnf)
  refine dI ?_
  conv => whnf
  refine cmpF he ?_
  conv => whnf
  exact ⟨dec_f (fun h => h4 h.2.2.2.1), rfl⟩
 rw [rp_ok h4] at hA
 have hlen := trs_len p r.start r.steps
 have hlast := trs_rdy hR h4 r.steps.length (Nat.le_refl _)
 have hA' : PSpec Tryz.prog 26 [.agg (encP p), .agg (encZ s), .agg (encC r.start), .sl stp0 encX r.steps] (fun u => u = rpA (trs p r.start r.steps) 0) := hA
 have hvio : vioB p q s r ↔ badB p q ((trs p r.start r.steps).getD r.steps.length cfg0) := ⟨fun h => h.2.2.2.2, fun h => ⟨by omega, by omega, h3, h4, h⟩⟩
 generalize trs p r.start r.steps = m at hlen hlast hA' hvio
 (refine oP (hA') ?_; conv => whnf)
 refine dI ?_
 conv => whnf
 refine cmpT rfl ?_
 conv => whnf
 refine aI ?_
 conv => whnf
 refine nI ?_
 rw [show ((m.length : Int) - 1).toNat = r.steps.length by omega]
 conv => whnf
 generalize m.getD r.steps.length cfg0 = d at hlast hvio
 refine dD (badR p q d hp hq hlast.wide hlast.plain (prop_ok hz.1 (by omega)).2) (fun _ => ?_) (fun _ => ?_) <;> (conv => whnf)
 ·rename_i h5; exact ⟨dec_t (hvio.2 h5), rfl⟩
 ·rename_i h5; exact ⟨dec_f (fun h => h5 (hvio.1 h)), rfl⟩
end Go.Proofs.YtaeomngmcfdfpaaGreatDoor
