import Derived.Test.YtjnjieabdjpfnabDoorA1
import Derived.Test.YtjnjieabdjpfnabDoorM8
import Derived.Test.YtjnjieabdjpfnabDoorM6
set_option linter.unusedVariables false
set_option linter.unusedSimpArgs false
namespace Go.Proofs.YtjnjieabdjpfnabDoor
set_option maxRecDepth 100000
set_option maxHeartbeats 16000000
def swG (a b j : Nat) : Nat := if j = a then b else if j = b then a else j
def swI (a b : Nat) (i : Int) : Int := if i = a then b else if i = b then a else i
def swL (l : List Int) (a b : Nat) : List Int := (l.set a (l.getD b 0)).set b (l.getD a 0)
def swC (c : Cfg) (a b : Nat) : Cfg := ⟨c.shape, swL c.states a b, c.correct, c.sent, c.faulty, c.value⟩
def swX (x : Stp) (a b : Nat) : Stp := ⟨x.rule, swI a b x.process, swI a b x.partner⟩
theorem swL_len (l : List Int) (a b : Nat) : (swL l a b).length = l.length := by simp [swL]
theorem swL_get {l : List Int} {a b : Nat} (ha : a < l.length) (hb : b < l.length) (j : Nat) : (swL l a b).getD j 0 = l.getD (swG a b j) 0 := by
 unfold swL swG
 rw [getD_set, getD_set, List.length_set]
 by_cases h1 : b = j
 ·rw [if_pos ⟨h1, hb⟩]
  by_cases h2 : j = a
  ·rw [if_pos h2]
   have : a = b := by omega
   rw [this]
  ·rw [if_neg h2, if_pos h1.symm]
 ·rw [if_neg (fun h => h1 h.1)]
  by_cases h2 : a = j
  ·rw [if_pos ⟨h2, ha⟩, if_pos h2.symm]
  ·rw [if_neg (fun h => h2 h.1), if_neg (fun h => h2 h.symm), if_neg (fun h => h1 h.symm)]
theorem swG_swG (a b j : Nat) : swG a b (swG a b j) = j := by
 unfold swG
 (repeat' split) <;> omega
theorem swG_lt {a b n j : Nat} (ha : a < n) (hb : b < n) (h : j < n) : swG a b j < n := by
 unfold swG
 (repeat' split) <;> omega
theorem swI_iff (a b j : Nat) (i : Int) : ((j : Int) = swI a b i) ↔ ((swG a b j : Nat) : Int) = i := by
 unfold swI swG
 (repeat' split) <;> omega
theorem swI_lt {a b : Nat} {n i : Int} (ha : (a : Int) < n) (hb : (b : Int) < n) : (swI a b i < n ↔ i < n) ∧ (0 ≤ swI a b i ↔ 0 ≤ i) ∧ (swI a b i = -1 ↔ i = -1) := by
 unfold swI
 (repeat' split) <;> omega
theorem swI_toNat {a b : Nat} {i : Int} (h : 0 ≤ i) : swG a b (swI a b i).toNat = i.toNat := by
 unfold swI swG
 (repeat' split) <;> omega
theorem swI_inj {a b : Nat} {i j : Int} : swI a b i = swI a b j ↔ i = j := by
 unfold swI
 (repeat' split) <;> omega
theorem sw_get {c : Cfg} {a b : Nat} (ha : a < c.states.length) (hb : b < c.states.length) {i : Int} (h : 0 ≤ i) : (swC c a b).states.getD (swI a b i).toNat 0 = c.states.getD i.toNat 0 := by
 show (swL c.states a b).getD _ 0 = _
 rw [swL_get ha hb, swI_toNat h]
theorem sw_ex {c : Cfg} {a b : Nat} (ha : a < c.states.length) (hb : b < c.states.length) (l : List Int) (i : Int) : exK (swC c a b) l (swI a b i) (swC c a b).states.length ↔ exK c l i c.states.length := by
 have e : (swC c a b).states.length = c.states.length := swL_len _ _ _
 unfold exK
 rw [e]
 constructor
 ·rintro (h | ⟨j, h1, h2, h3⟩)
  ·exact .inl h
  ·refine .inr ⟨swG a b j, swG_lt ha hb h1, fun h => h2 ((swI_iff a b j i).2 h), ?_⟩
   rw [← swL_get ha hb]
   exact h3
 ·rintro (h | ⟨j, h1, h2, h3⟩)
  ·exact .inl h
  ·refine .inr ⟨swG a b j, swG_lt ha hb h1, fun h => h2 ?_, ?_⟩
   ·have := (swI_iff a b (swG a b j) i).1 h
    rwa [swG_swG] at this
   ·show (swL c.states a b).getD _ 0 ∈ l
    rw [swL_get ha hb, swG_swG]
    exact h3
theorem sw_fa {c : Cfg} {a b : Nat} (ha : a < c.states.length) (hb : b < c.states.length) (l : List Int) (i : Int) : faK (swC c a b) l (swI a b i) (swC c a b).states.length ↔ faK c l i c.states.length := by
 have e : (swC c a b).states.length = c.states.length := swL_len _ _ _
 unfold faK
 rw [e]
 constructor
 ·rintro (h | h)
  ·exact .inl h
  ·refine .inr fun j h1 h2 => ?_
   have := h (swG a b j) (swG_lt ha hb h1) (fun h => h2 (by
    have := (swI_iff a b (swG a b j) i).1 h
    rwa [swG_swG] at this))
   have e2 : (swL c.states a b).getD (swG a b j) 0 = c.states.getD j 0 := by rw [swL_get ha hb, swG_swG]
   rw [← e2]
   exact this
 ·rintro (h | h)
  ·exact .inl h
  ·refine .inr fun j h1 h2 => ?_
   have := h (swG a b j) (swG_lt ha hb h1) (fun h => h2 ((swI_iff a b j i).2 h))
   show (swL c.states a b).getD _ 0 ∈ l
   rw [swL_get ha hb]
   exact this
theorem sw_en {p : Pro} {s : Siz} {c : Cfg} {x : Stp} {a b : Nat} (h : Rdy p s c) (ht : p.topology = 1) (ha : a < c.states.length) (hb : b < c.states.length) : enB p s (swC c a b) (swX x a b) false ↔ enB p s c x false := by
 have e : (swC c a b).states.length = c.states.length := swL_len _ _ _
 have l1 := swI_lt (a := a) (b := b) (n := (c.states.length : Int)) (i := x.process) (by omega) (by omega)
 have l2 := swI_lt (a := a) (b := b) (n := (c.states.length : Int)) (i := x.partner) (by omega) (by omega)
 unfold enB
 rw [e]
 show ((0 ≤ x.rule ∧ x.rule < p.rules.length) ∧ (0 ≤ swI a b x.process ∧ swI a b x.process < c.states.length)) ∧ enC p s (swC c a b) (p.rules.getD x.rule.toNat rul0) (swX x a b) false ↔ _
 rw [l1.1, l1.2.1]
 refine and_congr_right fun hin => ?_
 have hR := valid_rule h.val (i := x.rule.toNat) (by omega)
 generalize p.rules.getD x.rule.toNat rul0 = r at hR ⊢
 have hfit := hR.fit
 rw [ht] at hfit
 unfold fitB at hfit
 have hk : r.kind = 1 ∨ r.kind = 2 ∨ r.kind = 3 := by omega
 unfold enC
 rw [show (swX x a b).process = swI a b x.process from rfl, sw_get ha hb hin.2.1]
 refine and_congr_right fun _ => and_congr_right fun _ => ?_
 unfold kinB
 rw [show (swX x a b).process = swI a b x.process from rfl, show (swX x a b).partner = swI a b x.partner from rfl]
 by_cases h2 : r.kind = 2 ∨ r.kind = 5
 ·rw [if_pos h2, if_pos h2]
  have h3 : r.kind = 2 := by omega
  simp only [h3, true_or, and_true]
  unfold prtB
  rw [show (swX x a b).process = swI a b x.process from rfl, show (swX x a b).partner = swI a b x.partner from rfl, e, l2.1, l2.2.1]
  refine and_congr_right fun g1 => and_congr_right fun g2 => ?_
  rw [sw_get ha hb g1]
  refine and_congr (not_congr swI_inj) Iff.rfl
 ·rw [if_neg h2, if_neg h2, l2.2.2]
  refine and_congr_right fun _ => ?_
  by_cases h3 : r.kind = 1
  ·rw [if_pos h3, if_pos h3]
   refine and_congr Iff.rfl ?_
   unfold othB
   exact and_congr (sw_ex ha hb _ _) (sw_fa ha hb _ _)
  ·rw [if_neg h3, if_neg h3, if_pos (by omega), if_pos (by omega)]
theorem sw_ap {c : Cfg} {r : Rul} {x : Stp} {a b : Nat} (ha : (a : Int) < c.correct) (hb : (b : Int) < c.correct) : apB (swC c a b) r (swX x a b) ↔ apB c r x := by
 have l1 := swI_lt (a := a) (b := b) (n := c.correct) (i := x.process) ha hb
 unfold apB
 rw [show (swX x a b).process = swI a b x.process from rfl, show (swC c a b).correct = c.correct from rfl, show (swC c a b).sent = c.sent from rfl, show (swC c a b).faulty = c.faulty from rfl]
 by_cases h : x.process < c.correct
 ·rw [if_pos h, if_pos (l1.1.2 h)]
 ·rw [if_neg h, if_neg (fun g => h (l1.1.1 g))]
theorem sw_st {c : Cfg} {r : Rul} {x : Stp} {a b j : Nat} (ha : a < c.states.length) (hb : b < c.states.length) : stG (swC c a b) r (swX x a b) j = stG c r x (swG a b j) := by
 unfold stG
 rw [show (swX x a b).process = swI a b x.process from rfl, show (swX x a b).partner = swI a b x.partner from rfl, show (swC c a b).states = swL c.states a b from rfl, swL_get ha hb]
 by_cases h1 : (j : Int) = swI a b x.process
 ·rw [if_pos h1, if_pos ((swI_iff a b j _).1 h1)]
 rw [if_neg h1, if_neg (fun h => h1 ((swI_iff a b j _).2 h))]
 by_cases h2 : (r.kind = 2 ∨ r.kind = 5) ∧ (j : Int) = swI a b x.partner
 ·rw [if_pos h2, if_pos ⟨h2.1, (swI_iff a b j _).1 h2.2⟩]
 rw [if_neg h2, if_neg (c := (r.kind = 2 ∨ r.kind = 5) ∧ ((swG a b j : Nat) : Int) = x.partner) (fun h => h2 ⟨h.1, (swI_iff a b j _).2 h.2⟩)]
theorem sw_apC {c : Cfg} {r : Rul} {x : Stp} {a b : Nat} (ha : (a : Int) < c.correct) (hb : (b : Int) < c.correct) (hc : c.correct ≤ c.states.length) : apC (swC c a b) r (swX x a b) = swC (apC c r x) a b := by
 have ha' : a < c.states.length := by omega
 have hb' : b < c.states.length := by omega
 have l1 := swI_lt (a := a) (b := b) (n := c.correct) (i := x.process) ha hb
 have e0 : (swC c a b).states.length = c.states.length := swL_len _ _ _
 have e1 : stN (swC c a b) r (swX x a b) = swL (stN c r x) a b := by
  symm
  refine st_of (by rw [swL_len, stN_len, e0]) fun j hj => ?_
  rw [e0] at hj
  rw [swL_get (by rw [stN_len]; exact ha') (by rw [stN_len]; exact hb'), sw_st ha' hb']
  exact getD_map_range _ _ _ (swG_lt ha' hb' hj)
 unfold apC
 rw [e1]
 unfold swC
 dsimp only
 congr 1
 ·by_cases h : x.process < c.correct
  ·rw [if_pos h, if_pos (show (swX x a b).process < c.correct from l1.1.2 h)]
  ·rw [if_neg h, if_neg (show ¬ (swX x a b).process < c.correct from fun g => h (l1.1.1 g))]
 ·by_cases h : x.process < c.correct
  ·rw [if_pos h, if_pos (show (swX x a b).process < c.correct from l1.1.2 h)]
  ·rw [if_neg h, if_neg (show ¬ (swX x a b).process < c.correct from fun g => h (l1.1.1 g))]
theorem sw_rdy {p : Pro} {s : Siz} {c : Cfg} {a b : Nat} (h : Rdy p s c) (ha : a < c.states.length) (hb : b < c.states.length) : Rdy p s (swC c a b) := by
 have hv := h.vc
 have e0 : (swC c a b).states.length = c.states.length := swL_len _ _ _
 have hw : wideB (swC c a b) = false := by
  have := h.wide
  unfold wideB at this ⊢
  rw [e0]
  exact this
 refine ⟨h.big, hw, h.val, h.siz, h.sz, h.adm, ⟨by rw [e0]; exact hv.len, fun j hj => ?_, hv.cor, hv.snl, hv.sen, hv.fal, hv.fau, hv.va0, hv.va1, hv.tre, hv.non⟩⟩
 rw [e0] at hj
 show 0 ≤ (swL c.states a b).getD j 0 ∧ (swL c.states a b).getD j 0 < _
 rw [swL_get ha hb]
 exact hv.sta _ (swG_lt ha hb hj)
def isI (p : Pro) (q : Prp) (s : Siz) (c : Cfg) : Prop := VC p s c ∧ c.value = 0 ∧ (∀ j, j < c.sent.length → c.sent.getD j 0 = 0 ∧ c.faulty.getD j 0 = 0) ∧ ∀ i, i < c.states.length → c.states.getD i 0 ∈ chF p q s i
noncomputable instance decIsI (p : Pro) (q : Prp) (s : Siz) (c : Cfg) : Decidable (isI p q s c) := Classical.propDecidable _
theorem sizQ_ok {p : Pro} {q : Prp} {s : Siz} (h : sizQ p q s = 0) : propE p q = 0 ∧ sizeE p s = 0 := by
 unfold sizQ at h
 by_cases h1 : propE p q ≠ 0
 ·rw [if_pos h1] at h; omega
 ·rw [if_neg h1] at h; exact ⟨by omega, h⟩
def vioB (p : Pro) (q : Prp) (s : Siz) (r : Rn) : Prop := sizQ p q s = 0 ∧ q.kind = 1 ∧ isI p q s r.start ∧ runOk p s r.start r.steps ∧ badB p q ((trs p r.start r.steps).getD r.steps.length cfg0)
noncomputable instance decVio (p : Pro) (q : Prp) (s : Siz) (r : Rn) : Decidable (vioB p q s r) := Classical.propDecidable _
theorem rdy_of {p : Pro} {s : Siz} {c : Cfg} (hp : ¬ bigP p) (hw : wideB c = false) (hz : sizeE p s = 0) (hv : VC p s c) : Rdy p s c :=
 Rdy.of hp hw (by
  have : vcE p s c = 0 := by unfold vcE; rw [if_pos hv]
  unfold vconE; rw [if_neg (by omega)]; exact this)
theorem Rdy.plain {p : Pro} {s : Siz} {c : Cfg} (h : Rdy p s c) : plB p c := by
 have hv := h.vc
 have hf := h.sz
 have hl := hv.len
 refine ⟨hv.sta, by rw [hv.cor]; omega, ?_⟩
 rw [hv.cor, hl]
 unfold modN
 split <;> omega
theorem ApplyFP (p : Pro) (s : Siz) (c : Cfg) (x : Stp) (h : Rdy p s c) (he : enB p s c x false) (ha : apB c (rulX p x) x) : PSpec Tryd.prog 18 [.agg (encP p), .agg (encZ s), .agg (encC c), .agg (encX x)] (fun u => u = .tup [.agg (encC (apC c (rulX p x) x)), .int .i64 0]) := by
 have h1 := h.vcon
 refine PSpec.intro tt_ok mx_ok Tryd.func18 rfl (by decide) ?_; (conv => whnf)
 refine boxP rfl ?_
 conv => whnf
 refine boxP rfl ?_
 conv => whnf
 refine boxP rfl ?_
 conv => whnf
 refine boxP rfl ?_
 conv => whnf
 (refine oP (ValidConfigF p s c h.big h.wide) ?_; conv => whnf)
 refine fI ?_
 conv => whnf
 (refine oP (seeF p s c h.wide) ?_; conv => whnf)
 refine dC (enabledV p s c x false h) (fun _ => ?_) (fun _ => ?_) <;> (conv => whnf)
 case refine_2 => rename_i hn; exact absurd he hn
 have hA := applyV p s c x h he
 unfold rulX at ha ⊢
 generalize p.rules.getD x.rule.toNat rul0 = r at hA ha ⊢
 refine Spec.news 400 (lmC 1001 1002 1003 1004) (memC (apC c r x)) (.tup [cfgL (apC c r x), .int .i64 0]) hA (auto_) rfl (fun u M' hR => ?_) ?_
 ·rcases hR with ⟨_, hT⟩ | ⟨hn, _⟩
  ·exact outU u M' hT
  ·exact absurd ha hn
 conv => whnf
 exact ⟨rfl, rfl⟩
theorem lawReplayCuts (p : Pro) (s : Siz) (c : Cfg) (l : List Stp) (n : Int) : PSpec Tryd.prog 7 [.agg (encAt p s c), .sl stp0 encX l, .int .i64 n] (fun u => u = .bool true) := by
 refine PSpec.intro tt_ok mx_ok Tryd.func7 rfl (by decide) ?_; (conv => whnf)
 refine boxP rfl ?_
 conv => whnf
 refine dC (bigF p) (fun _ => ?_) (fun _ => ?_) <;> (conv => whnf)
 ·(refine oP (knownF) ?_; conv => whnf)
  exact ⟨rfl, rfl⟩
 rename_i hp
 have hW := wideF c
 cases hw : wideB c with
 |true =>
  rw [hw] at hW
  (refine oP (hW) ?_; conv => whnf)
  (refine oP (knownF) ?_; conv => whnf)
  exact ⟨rfl, rfl⟩
 |false =>
  rw [hw] at hW
  (refine oP (hW) ?_; conv => whnf)
  refine cmpI ?_ ?_ <;> (intro h0; conv => whnf)
  ·(refine oP (knownF) ?_; conv => whnf)
   exact ⟨rfl, rfl⟩
  have hl : l.length ≤ 300 := by omega
  have hA := ReplayF p s ⟨c, l⟩ hp hw (Nat.le_trans hl (by decide))
  by_cases hrun : sizeE p s = 0 ∧ VC p s c ∧ runOk p s c l
  case neg =>
   have he : ∃ e, e ≠ 0 ∧ rpT p s ⟨c, l⟩ = rpA [] e := by
    unfold rpT
    by_cases h1 : sizeE p s ≠ 0
    ·rw [if_pos h1]; exact ⟨_, h1, rfl⟩
    rw [if_neg h1]
    by_cases h2 : VC p s c
    ·rw [if_pos h2]
     exact rp_no fun h3 => hrun ⟨by omega, h2, h3⟩
    ·rw [if_neg h2]; exact ⟨10, by decide, rfl⟩
   obtain ⟨e, he0, he⟩ := he
   rw [he] at hA
   (refine oP (hA) ?_; conv => whnf)
   refine cmpT he0 ?_
   conv => whnf
   refine cmpT rfl ?_
   conv => whnf
   (refine oP (knownF) ?_; conv => whnf)
   exact ⟨rfl, rfl⟩
  obtain ⟨h1, h2, h3⟩ := hrun
  have hR : Rdy p s c := Rdy.of hp hw (by
   have : vcE p s c = 0 := by unfold vcE; rw [if_pos h2]
   unfold vconE; rw [if_neg (by omega)]; exact this)
  have hok : ∀ m, runOk p s c m → rpT p s ⟨c, m⟩ = rpA (trs p c m) 0 := fun m hm => by
   unfold rpT
   rw [if_neg (by omega), if_pos h2, rp_ok hm]
   rfl
  rw [hok l h3] at hA
  have hlen := trs_len p c l
  have hwid := trs_wide hR h3
  (refine oP (hA) ?_; conv => whnf)
  refine fI ?_
  conv => whnf
  refine arW trivial ?_
  conv => whnf
  refine aI ?_
  conv => whnf
  refine arU trivial (by omega) ?_
  conv => whnf
  refine nI ?_
  have hu : 0 ≤ IntKind.u64.wrap n := by
   have e : IntKind.u64.wrap n = n % 18446744073709551616 := by simp [IntKind.wrap, IntKind.signed, IntKind.bits]
   rw [e]; omega
  have hy0 : 0 ≤ (IntKind.u64.wrap n).tmod ((l.length : Int) + 1) := Int.tmod_nonneg _ hu
  have hy1 : (IntKind.u64.wrap n).tmod ((l.length : Int) + 1) < (l.length : Int) + 1 := Int.tmod_lt_of_pos _ (by omega)
  obtain ⟨k, hk⟩ : ∃ k : Nat, (IntKind.u64.wrap n).tmod ((l.length : Int) + 1) = k := ⟨_, (Int.toNat_of_nonneg hy0).symm⟩
  rw [hk] at hy1 ⊢
  conv => whnf
  refine aI ?_
  conv => whnf
  have hB := ReplayF p s ⟨c, l.take k⟩ hp hw (by rw [List.length_take]; omega)
  rw [hok _ (runOk_take k h3), trs_take] at hB
  refine dI ?_
  conv => whnf
  refine nI ?_
  conv => whnf
  rw [tN]
  (refine oC (hB) ?_; conv => whnf)
  refine fI ?_
  conv => whnf
  refine aI ?_
  conv => whnf
  refine fI ?_
  conv => whnf
  refine aI ?_
  conv => whnf
  refine nI ?_
  conv => whnf
  rw [show ((k : Int) + 1).toNat = k + 1 by omega]
  (refine oP (sameConfigsR ((trs p c l).take (k + 1)) (by rw [List.length_take]; omega) (fun d hd => hwid d (List.mem_of_mem_take hd))) ?_; conv => whnf)
  have hstep := trs_step hR h3
  have hrdy := trs_rdy hR h3
  generalize trs p c l = m at hlen hwid hstep hrdy
  refine WPc.loopF tt_ok mx_ok (fun i : Nat => i ≤ l.length) (fun i => [(12, .int .i64 (i : Int))]) (fun _ => []) (fun i => l.length - i) 0 (Nat.zero_le _) ?_; conv => whnf
  refine ⟨sI, ?_⟩
  rintro i hi
  conv => whnf
  refine cmpI ?_ ?_ <;> (intro g1; conv => whnf)
  ·have hs := hstep i (by omega)
   have hr := hrdy i (by omega)
   refine dI ?_
   conv => whnf
   refine nI ?_
   conv => whnf
   rw [tN]
   refine nI ?_
   conv => whnf
   generalize m.getD i cfg0 = d at hs hr
   generalize l.getD i stp0 = x at hs
   have hA := ApplyFP p s d x hr hs.1 hs.2.1
   rw [← hs.2.2] at hA
   (refine oC (hA) ?_; conv => whnf)
   have hwn : wideB (m.getD (i + 1) cfg0) = false := (hrdy (i + 1) (by omega)).wide
   refine dI ?_
   conv => whnf
   refine fI ?_
   conv => whnf
   refine aI ?_
   conv => whnf
   refine nI ?_
   conv => whnf
   rw [show ((i : Int) + 1).toNat = i + 1 by omega]
   generalize m.getD (i + 1) cfg0 = e at hwn
   have hse : cmpC e e = 0 := cmpC_self e
   (refine oC (compareC e e hwn) ?_; conv => whnf)
   refine fI ?_
   conv => whnf
   repeat' ((first|refine nI ?_|refine aI ?_|refine tI ?_|refine fI ?_|fail);conv => whnf)
   exact ⟨i + 1, sI, by omega, by dsimp only; omega⟩
  ·(refine oP (knownF) ?_; conv => whnf)
   exact ⟨rfl, rfl⟩
end Go.Proofs.YtjnjieabdjpfnabDoor
