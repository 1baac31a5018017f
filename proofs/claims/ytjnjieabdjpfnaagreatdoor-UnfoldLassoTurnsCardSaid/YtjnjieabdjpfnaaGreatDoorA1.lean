import Derived.Test.YtjnjieabdjpfnaaGreatDoorFoP
import Derived.Test.YtjnjieabdjpfnaaGreatDoorMN
import Derived.Test.YtjnjieabdjpfnaaGreatDoorM7
set_option linter.unusedVariables false
set_option linter.unusedSimpArgs false
namespace Go.Proofs.YtjnjieabdjpfnaaGreatDoor
set_option maxRecDepth 100000
set_option maxHeartbeats 16000000
theorem apC_wide {c : Cfg} {r : Rul} {x : Stp} (hw : wideB c = false) : wideB (apC c r x) = false := by
 have hc := wide_le hw
 have h1 : (apC c r x).sent.length = c.sent.length := by unfold apC; dsimp only; split <;> simp [bumpL_len]
 have h2 : (apC c r x).faulty.length = c.faulty.length := by unfold apC; dsimp only; split <;> simp [bumpL_len]
 have h3 : (apC c r x).states.length = c.states.length := stN_len c r x
 have h4 : (apC c r x).shape.length = c.shape.length := rfl
 unfold wideB
 simp only [Bool.or_eq_false_iff, decide_eq_false_iff_not]
 omega
def bxK (c : Cfg) : Blk := .box 31 (encC c)
def bxL (c : Cfg) : Blk := .box 31 [.row 1001 c.shape.length 1, .row 1002 c.states.length 1, .int .i64 c.correct, .row 1003 c.sent.length 1, .row 1004 c.faulty.length 1, .int .i64 c.value]
def lwM (c a : Cfg) (st se : List Int) : List (Nat × Blk) := [(5, bxK c), (6, bxL a), (8, bxK a), (1001, rowN a.shape), (1002, rowN st), (1003, rowN se), (1004, rowN a.faulty)]
theorem lawApplies (p : Pro) (s : Siz) (c : Cfg) (x : Stp) : PSpec Tryz.prog 8 [.agg (encAt p s c), .agg (encX x)] (fun u => u = .bool true) := by
 refine PSpec.intro tt_ok mx_ok Tryz.func8 rfl (by decide) ?_; (conv => whnf)
 refine boxP rfl ?_
 conv => whnf
 refine boxP rfl ?_
 conv => whnf
 refine dC (bigF p) (fun _ => ?_) (fun _ => ?_) <;> (conv => whnf)
 ·(refine oP (knownF) ?_; conv => whnf)
  exact ⟨rfl, rfl⟩
 rename_i hp
 have hW := wideF c
 cases hw : wideB c with
 |true =>
  rw [hw] at hW
  (refine oP (hW) ?_; conv => whnf)
  (refine oP (knownF) ?_; conv => whnf)
  exact ⟨rfl, rfl⟩
 |false =>
  rw [hw] at hW
  have hc := wide_le hw
  (refine oP (hW) ?_; conv => whnf)
  (refine oP (copyR c hw) ?_; conv => whnf)
  have hself : cmpC c c = 0 := cmpC_self c
  have h00 : cmpC cfg0 cfg0 = 0 := cmpC_self cfg0
  by_cases h1 : vconE p s c = 0
  case neg =>
   (refine oP (ApplyF_e p s c x hp hw h1) ?_; conv => whnf)
   (refine oP (ApplyR_e p s c x hp hw h1) ?_; conv => whnf)
   refine cmpT rfl ?_
   conv => whnf
   (refine oP (compareR cfg0 cfg0 rfl) ?_; conv => whnf)
   refine cmpT h00 ?_
   conv => whnf
   refine WPc.loopF tt_ok mx_ok (fun _ : Unit => True) (fun _ => [(11, .int .i64 0)]) (fun _ => [(5, bxK c), (6, bxK cfg0), (8, bxK cfg0)]) (fun _ => 0) () trivial ?_; conv => whnf
   refine ⟨sI, ?_⟩
   rintro _ _
   conv => whnf
   refine cmpF (by decide) ?_
   conv => whnf
   refine WPc.loopF tt_ok mx_ok (fun _ : Unit => True) (fun _ => [(12, .int .i64 0)]) (fun _ => [(5, bxK c), (6, bxK cfg0), (8, bxK cfg0)]) (fun _ => 0) () trivial ?_; conv => whnf
   refine ⟨sI, ?_⟩
   rintro _ _
   conv => whnf
   refine cmpF (by decide) ?_
   conv => whnf
   (refine oP (compareR c c hw) ?_; conv => whnf)
   refine cmpT hself ?_
   conv => whnf
   (refine oP (knownF) ?_; conv => whnf)
   exact ⟨rfl, rfl⟩
  by_cases he : enB p s c x false
  case neg =>
   (refine oP (ApplyF_s p s c x hp hw h1 he) ?_; conv => whnf)
   (refine oP (ApplyR_s p s c x hp hw h1 he) ?_; conv => whnf)
   refine cmpT rfl ?_
   conv => whnf
   (refine oP (compareR cfg0 cfg0 rfl) ?_; conv => whnf)
   refine cmpT h00 ?_
   conv => whnf
   refine WPc.loopF tt_ok mx_ok (fun _ : Unit => True) (fun _ => [(11, .int .i64 0)]) (fun _ => [(5, bxK c), (6, bxK cfg0), (8, bxK cfg0)]) (fun _ => 0) () trivial ?_; conv => whnf
   refine ⟨sI, ?_⟩
   rintro _ _
   conv => whnf
   refine cmpF (by decide) ?_
   conv => whnf
   refine WPc.loopF tt_ok mx_ok (fun _ : Unit => True) (fun _ => [(12, .int .i64 0)]) (fun _ => [(5, bxK c), (6, bxK cfg0), (8, bxK cfg0)]) (fun _ => 0) () trivial ?_; conv => whnf
   refine ⟨sI, ?_⟩
   rintro _ _
   conv => whnf
   refine cmpF (by decide) ?_
   conv => whnf
   (refine oP (compareR c c hw) ?_; conv => whnf)
   refine cmpT hself ?_
   conv => whnf
   (refine oP (knownF) ?_; conv => whnf)
   exact ⟨rfl, rfl⟩
  by_cases ha : apB c (p.rules.getD x.rule.toNat rul0) x
  case neg =>
   (refine oP (ApplyF_l p s c x hp hw h1 he ha) ?_; conv => whnf)
   (refine oP (ApplyR_l p s c x hp hw h1 he ha) ?_; conv => whnf)
   refine cmpT rfl ?_
   conv => whnf
   (refine oP (compareR cfg0 cfg0 rfl) ?_; conv => whnf)
   refine cmpT h00 ?_
   conv => whnf
   refine WPc.loopF tt_ok mx_ok (fun _ : Unit => True) (fun _ => [(11, .int .i64 0)]) (fun _ => [(5, bxK c), (6, bxK cfg0), (8, bxK cfg0)]) (fun _ => 0) () trivial ?_; conv => whnf
   refine ⟨sI, ?_⟩
   rintro _ _
   conv => whnf
   refine cmpF (by decide) ?_
   conv => whnf
   refine WPc.loopF tt_ok mx_ok (fun _ : Unit => True) (fun _ => [(12, .int .i64 0)]) (fun _ => [(5, bxK c), (6, bxK cfg0), (8, bxK cfg0)]) (fun _ => 0) () trivial ?_; conv => whnf
   refine ⟨sI, ?_⟩
   rintro _ _
   conv => whnf
   refine cmpF (by decide) ?_
   conv => whnf
   (refine oP (compareR c c hw) ?_; conv => whnf)
   refine cmpT hself ?_
   conv => whnf
   (refine oP (knownF) ?_; conv => whnf)
   exact ⟨rfl, rfl⟩
  have hA := ApplyF_k p s c x hp hw h1 he
  have hB := ApplyR_k p s c x hp hw h1 he ha
  have hwa : wideB (apC c (p.rules.getD x.rule.toNat rul0) x) = false := apC_wide hw
  generalize p.rules.getD x.rule.toNat rul0 = r at hA hB ha hwa
  have hca := wide_le hwa
  refine Spec.news 400 (lmC 1001 1002 1003 1004) (memC (apC c r x)) (.tup [cfgL (apC c r x), .int .i64 0]) hA (auto_) rfl (fun u M' hR => ?_) ?_
  ·rcases hR with ⟨_, hT⟩ | ⟨hn, _⟩
   ·exact outU u M' hT
   ·exact absurd ha hn
  conv => whnf
  generalize apC c r x = a at hB hwa hca
  (refine oP (hB) ?_; conv => whnf)
  refine cmpT rfl ?_
  conv => whnf
  (refine Spec.borrow (n := 5) (compareR a a hwa) rfl (by rintro _ rfl; rfl) ?_; rintro _ rfl; conv => whnf)
  have hself2 : cmpC a a = 0 := cmpC_self a
  refine cmpT hself2 ?_
  conv => whnf
  refine WPc.loopF tt_ok mx_ok (fun z : Nat × List Int => z.1 ≤ a.states.length ∧ z.2.length = a.states.length) (fun z => [(11, .int .i64 (z.1 : Int))]) (fun z => lwM c a z.2 a.sent) (fun z => a.states.length - z.1) (0, a.states) ⟨Nat.zero_le _, rfl⟩ ?_; conv => whnf
  refine ⟨sI, ?_⟩
  rintro ⟨k, l⟩ ⟨hk, hl⟩
  dsimp only at hk hl ⊢
  conv => whnf
  refine cmpI ?_ ?_ <;> (intro g1; conv => whnf)
  ·refine nI ?_
   conv => whnf
   refine rowSetI _ rfl ?_
   conv => whnf
   repeat' ((first|refine nI ?_|refine aI ?_|refine tI ?_|refine fI ?_|fail);conv => whnf)
   exact ⟨(k + 1, l.set _ _), sI, ⟨by dsimp only; omega, by simpa using hl⟩, by dsimp only; omega⟩
  refine WPc.loopF tt_ok mx_ok (fun z : Nat × List Int => z.1 ≤ a.sent.length ∧ z.2.length = a.sent.length) (fun z => [(12, .int .i64 (z.1 : Int))]) (fun z => lwM c a l z.2) (fun z => a.sent.length - z.1) (0, a.sent) ⟨Nat.zero_le _, rfl⟩ ?_; conv => whnf
  refine ⟨sI, ?_⟩
  rintro ⟨k2, l2⟩ ⟨hk2, hl2⟩
  dsimp only at hk2 hl2 ⊢
  conv => whnf
  refine cmpI ?_ ?_ <;> (intro g1; conv => whnf)
  ·refine nI ?_
   conv => whnf
   refine rowSetI _ rfl ?_
   conv => whnf
   repeat' ((first|refine nI ?_|refine aI ?_|refine tI ?_|refine fI ?_|fail);conv => whnf)
   exact ⟨(k2 + 1, l2.set _ _), sI, ⟨by dsimp only; omega, by simpa using hl2⟩, by dsimp only; omega⟩
  (refine oP (compareR c c hw) ?_; conv => whnf)
  refine cmpT hself ?_
  conv => whnf
  (refine oP (knownF) ?_; conv => whnf)
  exact ⟨rfl, rfl⟩
theorem bump_in {l ms : List Int} (hl : inR l 1048577) (h : sndB l ms) : inR (bumpL l ms) 1048577 := by
 have key : ∀ k, k ≤ ms.length → ∀ j, 0 ≤ (bumpL l (ms.take k)).getD j 0 ∧ (bumpL l (ms.take k)).getD j 0 ≤ 1048576 := by
  intro k
  induction k with
  |zero => intro _ j; exact inR_all hl j
  |succ k ih =>
   intro hk j
   have h1 := ih (by omega) j
   have h2 := ih (by omega) (ms.getD k 0).toNat
   have h3 := h k (by omega)
   rw [bumpL_up (by omega), getD_set] at h3 ⊢
   by_cases e : (ms.getD k 0).toNat = j ∧ (ms.getD k 0).toNat < (bumpL l (ms.take k)).length
   ·rw [if_pos ⟨rfl, e.2⟩] at h3
    rw [if_pos e]
    omega
   ·rw [if_neg e]; exact h1
 intro j hj
 have := key ms.length (Nat.le_refl _) j
 rw [List.take_length] at this
 omega
theorem RulOk.pto {p : Pro} {r : Rul} (h : RulOk p r) (hk : r.kind = 2 ∨ r.kind = 5) : 0 ≤ r.pto ∧ r.pto < p.states.length := by
 have := h.kin
 unfold kindE at this
 rcases hk with hk | hk
 ·rw [if_neg (by omega), if_pos hk] at this
  exact indE_ok (orL_zero this (indE r.pto p.states.length) (by simp))
 ·rw [if_neg (by omega), if_neg (by omega), if_neg (by omega), if_neg (by omega)] at this
  exact indE_ok (orL_zero this (indE r.pto p.states.length) (by simp))
theorem Rdy.next {p : Pro} {s : Siz} {c : Cfg} {x : Stp} (h : Rdy p s c) (he : enB p s c x false) (ha : apB c (p.rules.getD x.rule.toNat rul0) x) : Rdy p s (apC c (p.rules.getD x.rule.toNat rul0) x) := by
 obtain ⟨hin, hen⟩ := he
 have hR := valid_rule h.val (i := x.rule.toNat) (by omega)
 generalize p.rules.getD x.rule.toNat rul0 = r at hen hR ha ⊢
 have hrd := hR.read
 have hdst := hR.dst
 have hv := h.vc
 have hf := validE_fault h.val
 have hC : ¬ (p.fault = 0 ∧ (s.t ≠ 0 ∨ s.f ≠ 0)) := h.adm.2.1
 have hlen := hv.len
 have hcor := hv.cor
 have h1 : (apC c r x).sent.length = c.sent.length := by unfold apC; dsimp only; split <;> simp [bumpL_len]
 have h2 : (apC c r x).faulty.length = c.faulty.length := by unfold apC; dsimp only; split <;> simp [bumpL_len]
 have h3 : (apC c r x).states.length = c.states.length := stN_len c r x
 unfold apB at ha
 refine ⟨h.big, apC_wide h.wide, h.val, h.siz, h.sz, h.adm, ⟨by rw [h3]; exact hlen, fun j hj => ?_, hcor, by rw [h1]; exact hv.snl, ?_, by rw [h2]; exact hv.fal, ?_, ?_, ?_, hv.tre, hv.non⟩⟩
 ·have e : (apC c r x).states.getD j 0 = stG c r x j := getD_map_range _ _ _ (by rw [h3] at hj; exact hj)
  rw [e]
  rw [h3] at hj
  have hs := hv.sta j hj
  unfold stG
  by_cases e1 : (j : Int) = x.process
  ·rw [if_pos e1]; exact hdst
  ·rw [if_neg e1]
   by_cases e2 : (r.kind = 2 ∨ r.kind = 5) ∧ (j : Int) = x.partner
   ·rw [if_pos e2]; exact hR.pto e2.1
   ·rw [if_neg e2]
    by_cases e3 : r.kind = 3
    ·rw [if_pos e3]
     obtain ⟨g1, g2⟩ := hR.resp e3
     exact g2 _ (by omega)
    ·rw [if_neg e3]; exact hs
 ·by_cases hc : x.process < c.correct
  ·rw [if_pos hc] at ha
   rw [apC_t hc]
   exact bump_in hv.sen ha
  ·rw [apC_f hc]; exact hv.sen
 ·by_cases hc : x.process < c.correct
  ·rw [apC_t hc]; exact hv.fau
  ·rw [if_neg hc] at ha
   rw [apC_f hc]
   have hw : whL p = 1048576 := by
    unfold whL
    rw [if_pos]
    unfold modN at hlen
    by_cases e3 : p.fault = 3
    ·rw [if_pos e3] at hlen; omega
    ·rw [if_neg e3] at hlen; omega
   have := hv.fau
   rw [hw] at this ⊢
   exact bump_in this ha
 ·show 0 ≤ (if r.write = -1 then c.value else r.write)
  have := hv.va0
  split <;> omega
 ·show (if r.write = -1 then c.value else r.write) < 1 ∨ (if r.write = -1 then c.value else r.write) < p.values.length
  have := hv.va1
  split <;> omega
theorem Rdy.vcon {p : Pro} {s : Siz} {c : Cfg} (h : Rdy p s c) : vconE p s c = 0 := by
 have hs := h.sz
 have hz : sizeE p s = 0 := by
  unfold sizeE
  rw [if_neg (by rw [h.val]; omega), if_neg (fun hn => hn h.adm), if_neg (by omega)]
 unfold vconE
 rw [if_neg (by omega)]
 unfold vcE
 rw [if_pos h.vc]
def rulX (p : Pro) (x : Stp) : Rul := p.rules.getD x.rule.toNat rul0
noncomputable def rp (p : Pro) (s : Siz) : List Cfg → Cfg → List Stp → AV
 |acc, _, [] => rpA acc 0
 |acc, cur, x :: xs => if enB p s cur x false then (if apB cur (rulX p x) x then rp p s (acc ++ [apC cur (rulX p x) x]) (apC cur (rulX p x) x) xs else rpA [] 4) else rpA [] 9
theorem dropX {l : List Stp} {k : Nat} (h : k < l.length) : l.drop k = l.getD k stp0 :: l.drop (k + 1) := by
 rw [List.drop_eq_getElem_cons h, gD, gL h]
 rfl
theorem rp_form (p : Pro) (s : Siz) : ∀ (xs : List Stp) (acc : List Cfg) (cur : Cfg), (∀ d ∈ acc, wideB d = false) → wideB cur = false → ∃ l e, rp p s acc cur xs = rpA l e ∧ l.length ≤ acc.length + xs.length ∧ ∀ d ∈ l, wideB d = false
 |[], acc, cur, h1, _ => ⟨acc, 0, rfl, by simp, h1⟩
 |x :: xs, acc, cur, h1, h2 => by
  rw [rp]
  by_cases he : enB p s cur x false
  ·rw [if_pos he]
   by_cases ha : apB cur (rulX p x) x
   ·rw [if_pos ha]
    have hw : wideB (apC cur (rulX p x) x) = false := apC_wide h2
    obtain ⟨l, e, g1, g2, g3⟩ := rp_form p s xs (acc ++ [apC cur (rulX p x) x]) (apC cur (rulX p x) x) (fun d hd => by
     rcases List.mem_append.1 hd with hd | hd
     ·exact h1 d hd
     ·rw [List.mem_singleton] at hd; rw [hd]; exact hw) hw
    refine ⟨l, e, g1, ?_, g3⟩
    rw [List.length_append, List.length_singleton] at g2
    rw [List.length_cons]
    omega
   ·rw [if_neg ha]; exact ⟨[], 4, rfl, by simp, by simp⟩
  ·rw [if_neg he]; exact ⟨[], 9, rfl, by simp, by simp⟩
theorem last_snoc (acc : List Cfg) (d : Cfg) : (acc ++ [d]).getD acc.length cfg0 = d := by
 rw [gD, List.getElem?_append_right (Nat.le_refl _), Nat.sub_self]
 rfl
theorem rp_ex {p : Pro} {s : Siz} {c : Cfg} (h : wideB c = false) (l : List Stp) : ∃ m e, rp p s [c] c l = rpA m e := by
 obtain ⟨m, e, h1, _⟩ := rp_form p s l [c] c (by simpa using h) h
 exact ⟨m, e, h1⟩
theorem replayF (p : Pro) (s : Siz) (c : Cfg) (l : List Stp) (h : Rdy p s c) (hl : l.length ≤ 10000) : PSpec Tryz.prog 85 [.agg (encP p), .agg (encZ s), .agg (encC c), .sl stp0 encX l] (fun u => u = rp p s [c] c l) := by
 refine PSpec.rp (rp_ex h.wide l) ?_
 refine PSpec.intro tt_ok mx_ok Tryz.func85 rfl (by decide) ?_; (conv => whnf)
 refine boxP rfl ?_
 conv => whnf
 refine boxP rfl ?_
 conv => whnf
 refine boxP rfl ?_
 conv => whnf
 refine Spec.news 400 (lmC 5 9 13 17) (memC c) (cfgL c) (cloneL c h.wide) (auto_) rfl outC ?_
 conv => whnf
 refine bldI cfg0 encC [c] rfl ?_
 conv => whnf
 refine WPc.loopF tt_ok mx_ok (fun z : Nat × List Cfg × Cfg => z.1 ≤ l.length ∧ z.2.1.length = z.1 + 1 ∧ z.2.1.getD z.1 cfg0 = z.2.2 ∧ Rdy p s z.2.2 ∧ rp p s [c] c l = rp p s z.2.1 z.2.2 (l.drop z.1)) (fun z => [(21, .int .i64 (z.1 : Int)), (17, .top), (18, .top), (10, .row 1000 z.2.1.length 6)]) (fun z => [(1000, rowC z.2.1)]) (fun z => l.length - z.1) (0, [c], c) ⟨Nat.zero_le _, rfl, rfl, h, rfl⟩ ?_; conv => whnf
 refine ⟨Sub.by_ [(1000, .old 18)] _ 400 rfl (auto_) (auto_), ?_⟩
 rintro ⟨k, acc, cur⟩ ⟨h1, h2, h3, h4, h5⟩
 dsimp only at h1 h2 h3 h4 h5 ⊢
 conv => whnf
 refine cmpI ?_ ?_ <;> (intro g1; conv => whnf)
 ·rw [dropX (by omega), rp] at h5
  refine nI ?_
  rw [tN]
  generalize l.getD k stp0 = x at h5
  conv => whnf
  refine dI ?_
  conv => whnf
  refine aI ?_
  conv => whnf
  refine nI ?_
  rw [show ((acc.length : Int) - 1).toNat = k by omega]
  conv => whnf
  rw [h3]
  (refine oC (seeF p s cur h4.wide) ?_; conv => whnf)
  refine dC (enabledV p s cur x false h4) (fun _ => ?_) (fun _ => ?_) <;> (conv => whnf)
  case refine_2 =>
   rename_i hn
   rw [if_neg hn] at h5
   exact ⟨.inr ⟨9, rfl, h5⟩, rfl⟩
  rename_i he
  rw [if_pos he] at h5
  have hA := applyV p s cur x h4 he
  have hN := fun ha => h4.next he ha
  unfold rulX at h5
  generalize p.rules.getD x.rule.toNat rul0 = r at hA h5 hN
  by_cases ha : apB cur r x
  ·rw [if_pos ha] at h5
   refine Spec.news 400 (lmC 1001 1002 1003 1004) (memC (apC cur r x)) (.tup [cfgL (apC cur r x), .int .i64 0]) hA (auto_) rfl (fun u M' hR => ?_) ?_
   ·rcases hR with ⟨_, hT⟩ | ⟨hn, _⟩
    ·exact outU u M' hT
    ·exact absurd ha hn
   conv => whnf
   repeat' ((first|refine nI ?_|refine aI ?_|refine tI ?_|refine fI ?_|fail);conv => whnf)
   refine bldI cfg0 encC [apC cur r x] rfl ?_
   conv => whnf
   refine appI [apC cur r x] rfl lI ?_
   conv => whnf
   repeat' ((first|refine nI ?_|refine aI ?_|refine tI ?_|refine fI ?_|fail);conv => whnf)
   refine ⟨(k + 1, acc ++ [apC cur r x], apC cur r x), Sub.by_ [(1000, .old 50)] _ 400 rfl (auto_) (auto_), ⟨by dsimp only; omega, by simp; omega, by dsimp only; rw [← h2]; exact last_snoc _ _, hN ha, h5⟩, by dsimp only; omega⟩
  ·rw [if_neg ha] at h5
   refine Spec.news 400 [] [] (.tup [.agg cfgN, .int .i64 4]) hA (auto_) rfl (fun u M' hR => ?_) ?_
   ·rcases hR with ⟨hy, _⟩ | ⟨_, rfl⟩
    ·exact absurd hy ha
    ·exact ⟨trivial, auto_⟩
   conv => whnf
   repeat' ((first|refine nI ?_|refine aI ?_|refine tI ?_|refine fI ?_|fail);conv => whnf)
   exact ⟨.inr ⟨4, rfl, h5⟩, rfl⟩
 ·rw [List.drop_of_length_le (by omega)] at h5
  exact ⟨.inl h5.symm, rfl⟩
theorem replayR (p : Pro) (s : Siz) (c : Cfg) (l : List Stp) (h : Rdy p s c) (hl : l.length ≤ 10000) : PSpec Tryz.prog 86 [.agg (encP p), .agg (encZ s), .agg (encC c), .sl stp0 encX l] (fun u => u = rp p s [c] c l) := by
 refine PSpec.rp (rp_ex h.wide l) ?_
 refine PSpec.intro tt_ok mx_ok Tryz.func86 rfl (by decide) ?_; (conv => whnf)
 refine boxP rfl ?_
 conv => whnf
 refine boxP rfl ?_
 conv => whnf
 refine boxP rfl ?_
 conv => whnf
 (refine oP (copyR c h.wide) ?_; conv => whnf)
 refine bldI cfg0 encC [c] rfl ?_
 conv => whnf
 refine WPc.loopF tt_ok mx_ok (fun z : Nat × List Cfg × Cfg => z.1 ≤ l.length ∧ z.2.1.length = z.1 + 1 ∧ z.2.1.getD z.1 cfg0 = z.2.2 ∧ Rdy p s z.2.2 ∧ rp p s [c] c l = rp p s z.2.1 z.2.2 (l.drop z.1)) (fun z => [(11, .int .i64 (z.1 : Int)), (16, .top), (10, .row 1000 z.2.1.length 6)]) (fun z => [(1000, rowC z.2.1)]) (fun z => l.length - z.1) (0, [c], c) ⟨Nat.zero_le _, rfl, rfl, h, rfl⟩ ?_; conv => whnf
 refine ⟨Sub.by_ [(1000, .old 16)] _ 400 rfl (auto_) (auto_), ?_⟩
 rintro ⟨k, acc, cur⟩ ⟨h1, h2, h3, h4, h5⟩
 dsimp only at h1 h2 h3 h4 h5 ⊢
 conv => whnf
 refine cmpI ?_ ?_ <;> (intro g1; conv => whnf)
 ·rw [dropX (by omega), rp] at h5
  refine dI ?_
  conv => whnf
  refine aI ?_
  conv => whnf
  refine nI ?_
  rw [show ((acc.length : Int) - 1).toNat = k by omega]
  conv => whnf
  rw [h3]
  refine nI ?_
  rw [tN]
  generalize l.getD k stp0 = x at h5
  conv => whnf
  by_cases he : enB p s cur x false
  case neg =>
   rw [if_neg he] at h5
   (refine oC (ApplyR_s p s cur x h4.big h4.wide h4.vcon he) ?_; conv => whnf)
   repeat' ((first|refine nI ?_|refine aI ?_|refine tI ?_|refine fI ?_|fail);conv => whnf)
   exact ⟨.inr ⟨9, rfl, h5⟩, rfl⟩
  rw [if_pos he] at h5
  have hA := ApplyR_k p s cur x h4.big h4.wide h4.vcon he
  have hA2 := ApplyR_l p s cur x h4.big h4.wide h4.vcon he
  have hN := fun ha => h4.next he ha
  unfold rulX at h5
  generalize p.rules.getD x.rule.toNat rul0 = r at hA hA2 h5 hN
  by_cases ha : apB cur r x
  ·rw [if_pos ha] at h5
   (refine oC (hA ha) ?_; conv => whnf)
   repeat' ((first|refine nI ?_|refine aI ?_|refine tI ?_|refine fI ?_|fail);conv => whnf)
   refine bldI cfg0 encC [apC cur r x] rfl ?_
   conv => whnf
   refine appI [apC cur r x] rfl lI ?_
   conv => whnf
   repeat' ((first|refine nI ?_|refine aI ?_|refine tI ?_|refine fI ?_|fail);conv => whnf)
   refine ⟨(k + 1, acc ++ [apC cur r x], apC cur r x), Sub.by_ [(1000, .old 45)] _ 400 rfl (auto_) (auto_), ⟨by dsimp only; omega, by simp; omega, by dsimp only; rw [← h2]; exact last_snoc _ _, hN ha, h5⟩, by dsimp only; omega⟩
  ·rw [if_neg ha] at h5
   (refine oC (hA2 ha) ?_; conv => whnf)
   repeat' ((first|refine nI ?_|refine aI ?_|refine tI ?_|refine fI ?_|fail);conv => whnf)
   exact ⟨.inr ⟨4, rfl, h5⟩, rfl⟩
 ·rw [List.drop_of_length_le (by omega)] at h5
  exact ⟨.inl h5.symm, rfl⟩
structure Rn where
 start : Cfg
 steps : List Stp
def encRn (r : Rn) : List AV := encC r.start ++ [.sl stp0 encX r.steps]
noncomputable def rpT (p : Pro) (s : Siz) (r : Rn) : AV := if sizeE p s ≠ 0 then rpA [] (sizeE p s) else if VC p s r.start then rp p s [r.start] r.start r.steps else rpA [] 10
theorem rpT_form (p : Pro) (s : Siz) (r : Rn) (hw : wideB r.start = false) : ∃ l e, rpT p s r = rpA l e ∧ l.length ≤ 1 + r.steps.length ∧ ∀ d ∈ l, wideB d = false := by
 unfold rpT
 split
 ·exact ⟨[], _, rfl, by simp, by simp⟩
 ·split
  ·obtain ⟨l, e, h1, h2, h3⟩ := rp_form p s r.steps [r.start] r.start (by simpa using hw) hw
   exact ⟨l, e, h1, h2, h3⟩
  ·exact ⟨[], _, rfl, by simp, by simp⟩
theorem ReplayF (p : Pro) (s : Siz) (r : Rn) (hp : ¬ bigP p) (hw : wideB r.start = false) (hl : r.steps.length ≤ 9000) : PSpec Tryz.prog 38 [.agg (encP p), .agg (encZ s), .agg (encRn r)] (fun u => u = rpT p s r) := by
 have he := rpT.eq_1 p s r
 obtain ⟨m, e, hm, _⟩ := rpT_form p s r hw
 refine PSpec.rp ⟨m, e, hm⟩ ?_
 refine PSpec.intro tt_ok mx_ok Tryz.func38 rfl (by decide) ?_; (conv => whnf)
 refine boxP rfl ?_
 conv => whnf
 refine boxP rfl ?_
 conv => whnf
 refine boxP rfl ?_
 conv => whnf
 (refine oP (checkSizeF p s hp) ?_; conv => whnf)
 refine cmpI ?_ ?_ <;> (intro h1; conv => whnf)
 ·rw [if_pos h1] at he; exact ⟨.inr ⟨_, rfl, he⟩, rfl⟩
 rw [if_neg h1] at he
 have h2 := sizeE_ok (p := p) (s := s) (by omega)
 (refine oP (validConfigF p s r.start hp hw (by omega)) ?_; conv => whnf)
 by_cases h3 : VC p s r.start
 ·rw [if_pos h3] at he
  have hv : vcE p s r.start = 0 := by unfold vcE; rw [if_pos h3]
  have h : Rdy p s r.start := Rdy.of hp hw (by unfold vconE; rw [if_neg h1]; exact hv)
  refine fI ?_
  conv => whnf
  (refine oP (replayF p s r.start r.steps h (by omega)) ?_; conv => whnf)
  obtain ⟨m', e', hm'⟩ := rp_ex (p := p) (s := s) hw r.steps
  rw [hm'] at he ⊢
  rw [he]
  conv => whnf
  exact ⟨.inl rfl, rfl⟩
 ·rw [if_neg h3] at he
  have hv : vcE p s r.start = 1 := by unfold vcE; rw [if_neg h3]
  refine tI ?_
  conv => whnf
  exact ⟨.inr ⟨_, rfl, he⟩, rfl⟩
theorem ReplayR (p : Pro) (s : Siz) (r : Rn) (hp : ¬ bigP p) (hw : wideB r.start = false) (hl : r.steps.length ≤ 9000) : PSpec Tryz.prog 39 [.agg (encP p), .agg (encZ s), .agg (encRn r)] (fun u => u = rpT p s r) := by
 have he := rpT.eq_1 p s r
 obtain ⟨m, e, hm, _⟩ := rpT_form p s r hw
 refine PSpec.rp ⟨m, e, hm⟩ ?_
 refine PSpec.intro tt_ok mx_ok Tryz.func39 rfl (by decide) ?_; (conv => whnf)
 refine boxP rfl ?_
 conv => whnf
 refine boxP rfl ?_
 conv => whnf
 refine boxP rfl ?_
 conv => whnf
 (refine oP (sizedR p s hp) ?_; conv => whnf)
 refine cmpI ?_ ?_ <;> (intro h1; conv => whnf)
 ·rw [if_pos h1] at he; exact ⟨.inr ⟨_, rfl, he⟩, rfl⟩
 rw [if_neg h1] at he
 have h2 := sizeE_ok (p := p) (s := s) (by omega)
 refine dC (validConfigR p s r.start hp hw (by omega)) (fun _ => ?_) (fun _ => ?_) <;> (conv => whnf)
 ·rename_i h3
  rw [if_pos h3] at he
  have hv : vcE p s r.start = 0 := by unfold vcE; rw [if_pos h3]
  have h : Rdy p s r.start := Rdy.of hp hw (by unfold vconE; rw [if_neg h1]; exact hv)
  (refine oP (replayR p s r.start r.steps h (by omega)) ?_; conv => whnf)
  obtain ⟨m', e', hm'⟩ := rp_ex (p := p) (s := s) hw r.steps
  rw [hm'] at he ⊢
  rw [he]
  conv => whnf
  exact ⟨.inl rfl, rfl⟩
 ·rename_i h3
  rw [if_neg h3] at he
  exact ⟨.inr ⟨_, rfl, he⟩, rfl⟩
theorem sameConfigsR (l : List Cfg) (hl : l.length ≤ 100000) (hw : ∀ d ∈ l, wideB d = false) : PSpec Tryz.prog 40 [.sl cfg0 encC l, .sl cfg0 encC l] (fun u => u = .bool true) := by
 refine PSpec.intro tt_ok mx_ok Tryz.func40 rfl (by decide) ?_; (conv => whnf)
 refine fI ?_
 conv => whnf
 refine WPc.loopF tt_ok mx_ok (fun k : Nat => k ≤ l.length) (fun k => [(5, .int .i64 (k : Int))]) (fun _ => []) (fun k => l.length - k) 0 (Nat.zero_le _) ?_; conv => whnf
 refine ⟨sI, ?_⟩
 rintro k hk
 conv => whnf
 refine cmpI ?_ ?_ <;> (intro g1; conv => whnf)
 ·refine dI ?_
  conv => whnf
  refine nI ?_
  rw [tN]
  conv => whnf
  refine nI ?_
  rw [tN]
  conv => whnf
  have hd : wideB (l.getD k cfg0) = false := hw _ (by
   rw [gD, gL (by omega)]
   exact List.getElem_mem _)
  generalize l.getD k cfg0 = d at hd
  have hs := cmpC_self d
  (refine oC (compareR d d hd) ?_; conv => whnf)
  refine fI ?_
  conv => whnf
  repeat' ((first|refine nI ?_|refine aI ?_|refine tI ?_|refine fI ?_|fail);conv => whnf)
  exact ⟨k + 1, sI, by omega, by dsimp only; omega⟩
 ·exact ⟨rfl, rfl⟩
theorem lawReplays (p : Pro) (s : Siz) (r : Rn) : PSpec Tryz.prog 9 [.agg (encP p), .agg (encZ s), .agg (encRn r)] (fun u => u = .bool true) := by
 have hL : PSpec Tryz.prog 37 [.agg (encRn r)] (fun u => u = .bool (decide (wideB r.start = true ∨ 300 < r.steps.length))) := by
  refine PSpec.intro tt_ok mx_ok Tryz.func37 rfl (by decide) ?_; (conv => whnf)
  refine boxP rfl ?_
  conv => whnf
  have hW := wideF r.start
  cases hw : wideB r.start with
  |true =>
   rw [hw] at hW
   (refine oP (hW) ?_; conv => whnf)
   exact ⟨dec_t (.inl rfl), rfl⟩
  |false =>
   rw [hw] at hW
   (refine oP (hW) ?_; conv => whnf)
   refine cmpI ?_ ?_ <;> (intro h1; conv => whnf)
   ·exact ⟨dec_t (.inr (by omega)), rfl⟩
   ·exact ⟨dec_f (fun h => h.elim (fun e => by cases e) (by omega)), rfl⟩
 refine PSpec.intro tt_ok mx_ok Tryz.func9 rfl (by decide) ?_; (conv => whnf)
 refine boxP rfl ?_
 conv => whnf
 refine boxP rfl ?_
 conv => whnf
 refine boxP rfl ?_
 conv => whnf
 refine dC (bigF p) (fun _ => ?_) (fun _ => ?_) <;> (conv => whnf)
 ·(refine oP (knownF) ?_; conv => whnf)
  exact ⟨rfl, rfl⟩
 rename_i hp
 refine dC (hL) (fun _ => ?_) (fun _ => ?_) <;> (conv => whnf)
 ·(refine oP (knownF) ?_; conv => whnf)
  exact ⟨rfl, rfl⟩
 rename_i hn
 have hw : wideB r.start = false := by
  cases hw : wideB r.start with
  |true => exact absurd (.inl hw) hn
  |false => rfl
 have hl : r.steps.length ≤ 300 := by
  by_cases h : 300 < r.steps.length
  ·exact absurd (.inr h) hn
  ·omega
 have b1 := ReplayF p s r hp hw (by omega)
 have b2 := ReplayR p s r hp hw (by omega)
 obtain ⟨m, e, hm, hm2, hm3⟩ := rpT_form p s r hw
 rw [hm] at b1 b2
 (refine oP (b1) ?_; conv => whnf)
 (refine oP (b2) ?_; conv => whnf)
 refine cmpT rfl ?_
 conv => whnf
 (refine oP (sameConfigsR m (by omega) hm3) ?_; conv => whnf)
 (refine oP (knownF) ?_; conv => whnf)
 exact ⟨rfl, rfl⟩
def runOk (p : Pro) (s : Siz) : Cfg → List Stp → Prop
 |_, [] => True
 |cur, x :: xs => enB p s cur x false ∧ apB cur (rulX p x) x ∧ runOk p s (apC cur (rulX p x) x) xs
noncomputable instance decRun (p : Pro) (s : Siz) (c : Cfg) (l : List Stp) : Decidable (runOk p s c l) := Classical.propDecidable _
def tr (p : Pro) : Cfg → List Stp → List Cfg
 |_, [] => []
 |cur, x :: xs => apC cur (rulX p x) x :: tr p (apC cur (rulX p x) x) xs
theorem rp_ok {p : Pro} {s : Siz} : ∀ {xs : List Stp} {acc : List Cfg} {cur : Cfg}, runOk p s cur xs → rp p s acc cur xs = rpA (acc ++ tr p cur xs) 0
 |[], acc, cur, _ => by simp [rp, tr]
 |x :: xs, acc, cur, ⟨h1, h2, h3⟩ => by
  rw [rp, if_pos h1, if_pos h2, rp_ok h3, tr, List.append_assoc]
  rfl
theorem rp_no {p : Pro} {s : Siz} : ∀ {xs : List Stp} {acc : List Cfg} {cur : Cfg}, ¬ runOk p s cur xs → ∃ e, e ≠ 0 ∧ rp p s acc cur xs = rpA [] e
 |[], acc, cur, h => absurd trivial h
 |x :: xs, acc, cur, h => by
  rw [rp]
  by_cases h1 : enB p s cur x false
  ·rw [if_pos h1]
   by_cases h2 : apB cur (rulX p x) x
   ·rw [if_pos h2]
    exact rp_no fun h3 => h ⟨h1, h2, h3⟩
   ·rw [if_neg h2]; exact ⟨4, by decide, rfl⟩
  ·rw [if_neg h1]; exact ⟨9, by decide, rfl⟩
theorem tr_len {p : Pro} : ∀ (xs : List Stp) (cur : Cfg), (tr p cur xs).length = xs.length
 |[], _ => rfl
 |x :: xs, cur => by simp only [tr, List.length_cons]; rw [tr_len xs]
def trs (p : Pro) (c : Cfg) (l : List Stp) : List Cfg := c :: tr p c l
theorem trs_len (p : Pro) (c : Cfg) (l : List Stp) : (trs p c l).length = l.length + 1 := by simp [trs, tr_len]
theorem trs_rdy {p : Pro} {s : Siz} : ∀ {xs : List Stp} {cur : Cfg}, Rdy p s cur → runOk p s cur xs → ∀ i, i ≤ xs.length → Rdy p s ((trs p cur xs).getD i cfg0)
 |_, cur, h, _, 0, _ => h
 |[], _, _, _, i + 1, hi => by simp at hi
 |x :: xs, cur, h, ⟨h1, h2, h3⟩, i + 1, hi => by
  have := trs_rdy (h.next h1 h2) h3 i (by simpa using hi)
  exact this
def runS : Sh := intsS (intsS (.int (intsS (intsS (.int (.sl stpS .nil))))))
theorem shRun : shOf Tryz.prog 9 65 = some runS := by kernel_rfl
def runOf : Den runS → Rn
 |(a, b, c, d, e, f, g, _) => ⟨⟨nums a, nums b, c, nums d, nums e, f⟩, List.map stpOf g⟩
section
variable {S : Store}
theorem cv_steps (l : List (Den stpS)) : Cv S (.sl (dflt stpS) (encS stpS) l) (.sl stp0 encX (l.map stpOf)) :=
 Cv.sl (d := dflt stpS) (enc := encS stpS) stp0 encX stpOf fun y _ => ⟨cv_step y, rfl⟩
theorem cv_run (y : Den runS) : CvL S (encS runS y) (encRn (runOf y)) := by
 obtain ⟨a, b, c, d, e, f, g, ⟨⟩⟩ := y
 exact ⟨Cv.ints a, Cv.ints b, Cv.refl _ _, Cv.ints d, Cv.ints e, Cv.refl _ _, cv_steps g, trivial⟩
end
end Go.Proofs.YtjnjieabdjpfnaaGreatDoor
