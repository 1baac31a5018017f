import Derived.Test.YtkanoljhphmdcaaGreatDoorY1
import Derived.Test.YtkanoljhphmdcaaGreatDoorGA
import Derived.Test.YtkanoljhphmdcaaGreatDoorGK
import Derived.Test.YtkanoljhphmdcaaGreatDoorGC
set_option linter.unusedVariables false
set_option linter.unusedSimpArgs false
namespace Go.Proofs.YtkanoljhphmdcaaGreatDoor
open Go.ChangeShapes Go.WideShapes Go.ChangeAt Go.RowKit
theorem bytPro : bytB Tryz.prog 9 27 = true:=by kernel_rfl
def patS : Sh:=.int (.int (.int (intsS (intsS (.int (intsS (intsS (.int .nil))))))))
theorem shPat : shOf Tryz.prog 9 47 = some patS:=by kernel_rfl
theorem bytPat : bytB Tryz.prog 9 47 = true:=by kernel_rfl
def patZ : Den patS → Siz
 |(a, b, c, _)=>⟨a, b, c⟩
def patC : Den patS → Cfg
 |(_, _, _, a, b, c, d, e, f, _)=>⟨nums a, nums b, c, nums d, nums e, f⟩
def encPa (s : Siz) (c : Cfg) : List AV:=encZ s ++ encC c
theorem cv_pat {S : Store} (y : Den patS) : CvL S (encS patS y) (encPa (patZ y) (patC y)):=by
 obtain ⟨x, y, z, a, b, c, d, e, f, ⟨⟩⟩:=y
 exact ⟨Cv.refl _ _, Cv.refl _ _, Cv.refl _ _, Cv.ints a, Cv.ints b, Cv.refl _ _, Cv.ints d, Cv.ints e, Cv.refl _ _, trivial⟩
theorem okC_pat {y : Den patS} (h : szS patS y) : okC (patC y):=by
 obtain ⟨x, y, z, a, b, c, d, e, f, ⟨⟩⟩:=y
 obtain ⟨⟨h1, _⟩, ⟨h2, _⟩, ⟨h3, _⟩, ⟨h4, _⟩, _⟩:=h
 simp only [okC, patC, nums_len]
 exact ⟨h1, h2, h3, h4⟩
def psmS : Sh:=.int (.int (.int .nil))
def psmOf : Den psmS → Stp
 |(a, b, c, _)=>⟨a, b, c⟩
theorem cv_psm {S : Store} (y : Den psmS) : CvL S (encS psmS y) (encX (psmOf y)):=by
 obtain ⟨a, b, c, ⟨⟩⟩:=y
 exact ⟨Cv.refl _ _, Cv.refl _ _, Cv.refl _ _, trivial⟩
end Go.Proofs.YtkanoljhphmdcaaGreatDoor
namespace Go.Proofs.YtkanoljhphmdcaaGreatDoor
theorem shFir : shOf Tryz.prog 9 54 = some psmS:=by kernel_rfl
set_option maxRecDepth 100000
set_option maxHeartbeats 16000000
def tkK (p : Pro) (ri : Int) (n K len k : Nat) (c : Cfg) : Int:=if n ≤ k then tkF c.states (srcR p ri) (len - K) K else tkF c.states (srcR p ri) (K - 0) 0
noncomputable def accD (p : Pro) (s : Siz) (ri : Int) (n K len : Nat) : Nat → Nat → Cfg → List Stp → Cfg × List Stp × Int
 |0, _, c, xs=>(c, xs, 0)
 |t + 1, k, c, xs =>
  if tkK p ri n K len k c < 0 then (cfg0, [], 9)
  else if aplE p s c ⟨ri, tkK p ri n K len k c, -1⟩ ≠ 0 then (cfg0, [], aplE p s c ⟨ri, tkK p ri n K len k c, -1⟩)
  else accD p s ri n K len t (k + 1) (apC c (p.rules.getD ri.toNat rul0) ⟨ri, tkK p ri n K len k c, -1⟩) (xs ++ [⟨ri, tkK p ri n K len k c, -1⟩])
theorem accD_2 (p : Pro) (s : Siz) (ri : Int) (n K len : Nat) : ∀ t k c xs, n ≤ k → accD p s ri n K len t k c xs = accR p s ri K len t c xs
 |0, k, c, xs, h=>rfl
 |t + 1, k, c, xs, h=>by
  unfold accD accR
  rw [show tkK p ri n K len k c = tkF c.states (srcR p ri) (len - K) K from if_pos h, accD_2 p s ri n K len t (k + 1) _ _ (by omega)]
theorem accD_1 (p : Pro) (s : Siz) (ri : Int) (n K len m : Nat) : ∀ j k c xs, k + j = n → accD p s ri n K len (j + m) k c xs =
  if (accR p s ri 0 K j c xs).2.2 ≠ 0 then (cfg0, [], (accR p s ri 0 K j c xs).2.2) else accR p s ri K len m (accR p s ri 0 K j c xs).1 (accR p s ri 0 K j c xs).2.1
 |0, k, c, xs, h=>by
  rw [Nat.zero_add, accD_2 p s ri n K len m k c xs (by omega)]
  rw [if_neg (fun h=>h rfl)]
  rfl
 |j + 1, k, c, xs, h=>by
  rw [show j + 1 + m = (j + m) + 1 by omega]
  unfold accD
  have ih:=fun c xs=>accD_1 p s ri n K len m j (k + 1) c xs (by omega)
  rw [show tkK p ri n K len k c = tkF c.states (srcR p ri) (K - 0) 0 from if_neg (by omega)]
  have eA : accR p s ri 0 K (j + 1) c xs = if tkF c.states (srcR p ri) (K - 0) 0 < 0 then (cfg0, [], 9) else if aplE p s c ⟨ri, tkF c.states (srcR p ri) (K - 0) 0, -1⟩ ≠ 0 then (cfg0, [], aplE p s c ⟨ri, tkF c.states (srcR p ri) (K - 0) 0, -1⟩) else accR p s ri 0 K j (apC c (p.rules.getD ri.toNat rul0) ⟨ri, tkF c.states (srcR p ri) (K - 0) 0, -1⟩) (xs ++ [⟨ri, tkF c.states (srcR p ri) (K - 0) 0, -1⟩]):=rfl
  rw [eA]
  by_cases h1 : tkF c.states (srcR p ri) (K - 0) 0 < 0
  ·rw [if_pos h1, if_pos h1, if_pos (by decide)]
  rw [if_neg h1, if_neg h1]
  by_cases h2 : aplE p s c ⟨ri, tkF c.states (srcR p ri) (K - 0) 0, -1⟩ ≠ 0
  ·rw [if_pos h2, if_pos h2, if_pos h2]
  rw [if_neg h2, if_neg h2, ih]
theorem accE_D (p : Pro) (s : Siz) (c : Cfg) (ri : Int) (n m : Nat) : accE p s c ri n m = accD p s ri n c.correct.toNat c.states.length (n + m) 0 c []:=by
 rw [accD_1 p s ri n c.correct.toNat c.states.length m n 0 c [] (Nat.zero_add n)]
 rfl
theorem accE_ok {p : Pro} {s : Siz} {c : Cfg} {ri : Int} {n m : Nat} (h : Rdy p s c) : ((accE p s c ri n m).2.2 = 0 ∧ Rdy p s (accE p s c ri n m).1 ∧ (accE p s c ri n m).2.1.length = n + m) ∨ ((accE p s c ri n m).2.2 ≠ 0 ∧ (accE p s c ri n m).1 = cfg0 ∧ (accE p s c ri n m).2.1 = []):=by
 unfold accE
 rcases accR_ok p s ri 0 c.correct.toNat n c [] h with ⟨a, b, _, _, e⟩ | ⟨a, _, _⟩
 ·rw [if_neg (fun y=>y a)]
  rcases accR_ok p s ri c.correct.toNat c.states.length m _ (accR p s ri 0 c.correct.toNat n c []).2.1 b with ⟨x, y, _, _, z⟩ | h
  ·exact .inl ⟨x, y, by rw [z, e]; simp⟩
  ·exact .inr h
 ·rw [if_pos a]; exact .inr ⟨a, rfl, rfl⟩
theorem accelH (p : Pro) (s : Siz) (c : Cfg) (hp : okP p) (h : Rdy p s c) (hV : PSpec Tryz.prog 25 [.agg (encP p), .agg (encZ s), .agg (encC c)] (fun u=>u = .int .i64 0)) (ri : Int) (hr : 0 ≤ ri ∧ ri < p.rules.length) (n m : Nat) (hn : n ≤ 8) (hm : m ≤ 8) :
  PSpec Tryz.prog 16 [.agg (encP p), .agg (encZ s), .agg (encC c), .int .i64 ri, .int .i64 (n : Int), .int .i64 (m : Int)] (fun u=>u = accV (accE p s c ri n m)):=by
 have hle:=bigP_le h.big
 have hcor:=h.vc.cor
 have hlen:=h.vc.len
 have hsz:=h.sz
 have hmod : s.n - s.f ≤ modN p s:=by unfold modN; split <;> omega
 have eC : c.correct = ((c.correct.toNat : Nat) : Int):=(Int.toNat_of_nonneg (by omega)).symm
 have kE:=accE_ok (ri:=ri) (n:=n) (m:=m) h
 have eD:=accE_D p s c ri n m
 generalize accE p s c ri n m = R at kE eD ⊢
 have hK:=copyH c h.wide
 refine PSpec.sub (R:=fun u=>(R.2.2 = 0 ∧ u = accV R) ∨ (R.2.2 ≠ 0 ∧ u = .tup [.agg cfgN, .nilsl, .int .i64 R.2.2])) ?_ (by
  rintro _ (⟨_, rfl⟩ | ⟨h0, rfl⟩)
  ·exact ⟨_, rfl, by unfold accV encC; repeat' (first | exact True.intro | exact rfl | (refine And.intro ?_ ?_) | ((conv=>whnf); omega) | ((conv=>whnf); simp only [List.length_append, List.length_cons, List.length_nil]; done) | ((conv=>whnf); simp only [List.length_append, List.length_cons, List.length_nil]; omega)), rfl⟩
  ·rcases kE with ⟨k1, _⟩ | ⟨_, k2, k3⟩
   ·exact absurd k1 h0
   ·exact ⟨_, rfl, by unfold accV; rw [k2, k3]; repeat' (first | exact True.intro | exact rfl | (refine And.intro ?_ ?_) | ((conv=>whnf); omega) | ((conv=>whnf); simp only [List.length_append, List.length_cons, List.length_nil]; done) | ((conv=>whnf); simp only [List.length_append, List.length_cons, List.length_nil]; omega)), rfl⟩)
 clear kE
 refine PSpec.intro tt_ok mx_ok Tryz.func16 rfl (by decide) ?_; (conv=>whnf)
 refine boxP rfl ?_
 conv=>whnf
 refine boxP rfl ?_
 conv=>whnf
 refine boxP rfl ?_
 conv=>whnf
 (refine oP (hV) ?_; conv=>whnf)
 refine fI ?_
 conv=>whnf
 refine fI ?_
 conv=>whnf
 refine fI ?_
 conv=>whnf
 refine fI ?_
 conv=>whnf
 refine fI ?_
 conv=>whnf
 refine fI ?_
 conv=>whnf
 refine fI ?_
 conv=>whnf
 (refine oP (hK) ?_; conv=>whnf)
 refine WPc.loopF tt_ok mx_ok (fun y : Nat × Cfg × List Stp=>y.1 ≤ n + m ∧ Rdy p s y.2.1 ∧ (y.2.1.states.length = c.states.length ∧ y.2.1.correct = c.correct) ∧ y.2.2.length = y.1 ∧ R = accD p s ri n c.correct.toNat c.states.length (n + m - y.1) y.1 y.2.1 y.2.2) (fun y=>[(18, .int .i64 (y.1 : Int)), (17, .row 1000 y.2.2.length 3)]) (fun y=>[(16, .box 36 (encC y.2.1)), (12, .box 36 cfgN), (1000, .row 49 stpZ encX y.2.2)]) (fun y=>n + m - y.1) (0, c, []) ⟨Nat.zero_le _, h, ⟨rfl, rfl⟩, rfl, eD⟩ ?_; conv=>whnf
 refine ⟨Sub.by_ [(16, .old 16), (12, .old 12), (1000, .nil 3)] _ 400 rfl (auto_) (auto_), ?_⟩
 rintro ⟨k, d, xs⟩ ⟨hk, hd, ⟨hl, hl2⟩, hx, hE⟩
 dsimp only at hk hd hl hl2 hx hE
 have hw:=wide_le hd.wide
 have hcd : okC d:=by unfold okC; omega
 conv=>whnf
 refine aI ?_
 conv=>whnf
 refine cmpI ?_ ?_ <;> (intro g1; conv=>whnf)
 ·have hkn : k < n + m:=by omega
  have e1 : n + m - k = (n + m - (k + 1)) + 1:=by omega
  rw [e1] at hE
  clear e1
  have eA : accD p s ri n c.correct.toNat c.states.length (n + m - (k + 1) + 1) k d xs = if tkK p ri n c.correct.toNat c.states.length k d < 0 then (cfg0, [], 9) else if aplE p s d ⟨ri, tkK p ri n c.correct.toNat c.states.length k d, -1⟩ ≠ 0 then (cfg0, [], aplE p s d ⟨ri, tkK p ri n c.correct.toNat c.states.length k d, -1⟩) else accD p s ri n c.correct.toNat c.states.length (n + m - (k + 1)) (k + 1) (apC d (p.rules.getD ri.toNat rul0) ⟨ri, tkK p ri n c.correct.toNat c.states.length k d, -1⟩) (xs ++ [⟨ri, tkK p ri n c.correct.toNat c.states.length k d, -1⟩]):=rfl
  rw [eA] at hE
  clear eA
  have hT : PSpec Tryz.prog 42 [.agg (encC d), .int .i64 (srcR p ri), .bool (decide (n ≤ k))] (fun u=>u = .int .i64 (tkK p ri n c.correct.toNat c.states.length k d)):=by
   have hf:=firstG d (srcR p ri) (decide (n ≤ k)) (by omega)
   have e2 : ftF d (srcR p ri) (decide (n ≤ k)) d.states.length 0 = tkK p ri n c.correct.toNat c.states.length k d:=by
    unfold tkK
    by_cases g : n ≤ k
    ·rw [if_pos g, decide_eq_true g, ftF_t d _ c.correct.toNat (by rw [hl2]; exact eC) _ _ (Nat.zero_le _) (by omega), Nat.zero_add, hl]
    ·rw [if_neg g, decide_eq_false g, ftF_f d _ c.correct.toNat (by rw [hl2]; exact eC) _ _ (by omega)]
   rw [e2] at hf
   exact hf
  have hA:=fun i=>ApplyH p s d ⟨ri, i, -1⟩ hp hcd
  generalize tkK p ri n c.correct.toNat c.states.length k d = i at hE hT
  have hA:=hA i
  refine dI ?_
  conv=>whnf
  refine nI ?_
  conv=>whnf
  refine cmpI (fun g0=>?_) (fun g0=>?_)
  all_goals
   first
    |rw [decide_eq_true (by omega : n ≤ k)] at hT
    |rw [decide_eq_false (by omega : ¬ n ≤ k)] at hT
   conv=>whnf
   (refine oC (hT) ?_; conv=>whnf)
   refine cmpI ?_ ?_ <;> (intro g2; conv=>whnf)
  all_goals first
   |rw [if_pos g2] at hE
   |rw [if_neg g2] at hE
  iterate 2
   rotate_left
   ·by_cases h0 : aplE p s d ⟨ri, i, -1⟩ = 0
    rotate_left
    ·rw [if_pos h0] at hE
     rw [aplE_no h0] at hA
     rw [hE]
     generalize aplE p s d ⟨ri, i, -1⟩ = e at h0 hA
     (refine oP (hA) ?_; conv=>whnf)
     refine cmpT h0 ?_
     conv=>whnf
     exact ⟨.inr ⟨h0, rfl⟩, rfl⟩
    rw [if_neg (fun y=>y h0)] at hE
    obtain ⟨eA, q1, q2⟩:=aplE_ok h0
    have hrx:=rdy_apl hd h0
    have hlx : (apC d (p.rules.getD ri.toNat rul0) ⟨ri, i, -1⟩).states.length = d.states.length:=stN_len _ _ _
    have hcx : (apC d (p.rules.getD ri.toNat rul0) ⟨ri, i, -1⟩).correct = d.correct:=rfl
    rw [eA] at hA
    have eR : rulX p ⟨ri, i, -1⟩ = p.rules.getD ri.toNat rul0:=rfl
    rw [eR] at hA
    generalize apC d (p.rules.getD ri.toNat rul0) ⟨ri, i, -1⟩ = d' at hA hE hrx hlx hcx
    (refine oP (hA) ?_; conv=>whnf)
    refine fI ?_
    conv=>whnf
    refine bldI stpZ encX [⟨ri, i, -1⟩] rfl ?_
    conv=>whnf
    refine appI [⟨ri, i, -1⟩] rfl lI ?_
    conv=>whnf
    refine aI ?_
    conv=>whnf
    exact ⟨(k + 1, d', xs ++ [⟨ri, i, -1⟩]), Sub.by_ [(16, .old 16), (12, .old 12), (1000, .old 98)] _ 400 rfl (auto_) (auto_), ⟨by dsimp only; omega, hrx, by dsimp only; omega, by dsimp only; rw [List.length_append, List.length_singleton]; omega, hE⟩, by dsimp only; omega⟩
  all_goals
   rw [hE]
   exact ⟨.inr ⟨by decide, rfl⟩, rfl⟩
 ·obtain rfl : k = n + m:=by omega
  rw [Nat.sub_self] at hE
  rw [hE]
  exact ⟨.inl ⟨rfl, rfl⟩, rfl⟩
theorem AccelH (p : Pro) (s : Siz) (c : Cfg) (hp : okP p) (hc : okC c) (ri n m : Int) : PSpec Tryz.prog 16 [.agg (encP p), .agg (encZ s), .agg (encC c), .int .i64 ri, .int .i64 n, .int .i64 m] (fun u=>u = accV (accO p s c ri n m)):=by
 have hV:=placedG p s c hp hc
 unfold accO
 by_cases h1 : vldE p s c ≠ 0
 ·rw [if_pos h1]
  generalize vldE p s c = e at hV h1
  refine PSpec.sub (R:=fun u=>u = .tup [.agg cfgN, .nilsl, .int .i64 e]) ?_ (by rintro _ rfl; exact ⟨_, rfl, auto_, rfl⟩)
  refine PSpec.intro tt_ok mx_ok Tryz.func16 rfl (by decide) ?_; (conv=>whnf)
  refine boxP rfl ?_
  conv=>whnf
  refine boxP rfl ?_
  conv=>whnf
  refine boxP rfl ?_
  conv=>whnf
  (refine oP (hV) ?_; conv=>whnf)
  refine cmpT h1 ?_
  conv=>whnf
  exact ⟨rfl, rfl⟩
 rw [if_neg h1]
 have h1:=Classical.not_not.1 h1
 obtain ⟨k1, k2, k3, h, k5⟩:=vld_ok h1
 by_cases h2 : ri < 0 ∨ p.rules.length ≤ ri
 ·rw [if_pos h2]
  refine PSpec.sub (R:=fun u=>u = .tup [.agg cfgN, .nilsl, .int .i64 6]) ?_ (by rintro _ rfl; exact ⟨_, rfl, auto_, rfl⟩)
  refine PSpec.intro tt_ok mx_ok Tryz.func16 rfl (by decide) ?_; (conv=>whnf)
  refine boxP rfl ?_
  conv=>whnf
  refine boxP rfl ?_
  conv=>whnf
  refine boxP rfl ?_
  conv=>whnf
  (refine oP (hV) ?_; conv=>whnf)
  refine fI ?_
  conv=>whnf
  repeat' (refine cmpI ?_ ?_ <;> (intro _; conv=>whnf))
  all_goals first
   |exact ⟨rfl, rfl⟩
   |(exfalso; omega)
 rw [if_neg h2]
 by_cases h3 : n < 0 ∨ 8 < n ∨ m < 0 ∨ 8 < m
 ·rw [if_pos h3]
  refine PSpec.sub (R:=fun u=>u = .tup [.agg cfgN, .nilsl, .int .i64 1]) ?_ (by rintro _ rfl; exact ⟨_, rfl, auto_, rfl⟩)
  refine PSpec.intro tt_ok mx_ok Tryz.func16 rfl (by decide) ?_; (conv=>whnf)
  refine boxP rfl ?_
  conv=>whnf
  refine boxP rfl ?_
  conv=>whnf
  refine boxP rfl ?_
  conv=>whnf
  (refine oP (hV) ?_; conv=>whnf)
  refine fI ?_
  conv=>whnf
  refine fI ?_
  conv=>whnf
  refine fI ?_
  conv=>whnf
  repeat' (refine cmpI ?_ ?_ <;> (intro _; conv=>whnf))
  all_goals first
   |exact ⟨rfl, rfl⟩
   |(exfalso; omega)
 rw [if_neg h3]
 rw [h1] at hV
 have hA:=accelH p s c hp h hV ri (by omega) n.toNat m.toNat (by omega) (by omega)
 rw [Int.toNat_of_nonneg (by omega : 0 ≤ n), Int.toNat_of_nonneg (by omega : 0 ≤ m)] at hA
 exact hA
theorem sameStepsZ (l : List Stp) (hl : l.length ≤ 1000000) : PSpec Tryz.prog 18 [.sl stpZ encX l, .sl stpZ encX l] (fun u=>u = .bool true):=by
 refine PSpec.intro tt_ok mx_ok Tryz.func18 rfl (by decide) ?_; (conv=>whnf)
 refine fI ?_
 conv=>whnf
 refine WPc.loopF tt_ok mx_ok (fun k : Nat=>k ≤ l.length) (fun k=>[(5, .int .i64 (k : Int))]) (fun _=>[]) (fun k=>l.length - k) 0 (Nat.zero_le _) ?_; conv=>whnf
 refine ⟨sI, ?_⟩
 rintro k hk
 conv=>whnf
 refine cmpI ?_ ?_ <;> (intro g1; conv=>whnf)
 ·refine dI ?_
  conv=>whnf
  refine nI ?_
  conv=>whnf
  refine nI ?_
  conv=>whnf
  refine cmpF (fun hh=>hh rfl) ?_
  conv=>whnf
  repeat' ((first|refine nI ?_|refine aI ?_|refine tI ?_|refine fI ?_|fail);conv=>whnf)
  exact ⟨k + 1, sI, by omega, by dsimp only; omega⟩
 ·exact ⟨rfl, rfl⟩
theorem sameCfgZ (c : Cfg) (hw : wideB c = false) : PSpec Tryz.prog 17 [.agg (encC c), .agg (encC c)] (fun u=>u = .bool true):=by
 have hc:=wide_le hw
 refine PSpec.intro tt_ok mx_ok Tryz.func17 rfl (by decide) ?_; (conv=>whnf)
 refine boxP rfl ?_
 conv=>whnf
 refine boxP rfl ?_
 conv=>whnf
 refine cmpT rfl ?_
 conv=>whnf
 refine cmpT rfl ?_
 conv=>whnf
 (refine oP (sameIntsP c.shape (by omega)) ?_; conv=>whnf)
 (refine oP (sameIntsP c.states (by omega)) ?_; conv=>whnf)
 (refine oP (sameIntsP c.sent (by omega)) ?_; conv=>whnf)
 (refine oP (sameIntsP c.faulty (by omega)) ?_; conv=>whnf)
 exact ⟨rfl, rfl⟩
theorem accO_le (p : Pro) (s : Siz) (c : Cfg) (ri n m : Int) : wideB (accO p s c ri n m).1 = false ∧ (accO p s c ri n m).2.1.length ≤ 1000000:=by
 have hz : wideB cfg0 = false:=by decide
 unfold accO
 by_cases h1 : vldE p s c ≠ 0
 ·rw [if_pos h1]; exact ⟨hz, Nat.zero_le _⟩
 rw [if_neg h1]
 by_cases h2 : ri < 0 ∨ p.rules.length ≤ ri
 ·rw [if_pos h2]; exact ⟨hz, Nat.zero_le _⟩
 rw [if_neg h2]
 by_cases h3 : n < 0 ∨ 8 < n ∨ m < 0 ∨ 8 < m
 ·rw [if_pos h3]; exact ⟨hz, Nat.zero_le _⟩
 rw [if_neg h3]
 obtain ⟨k1, k2, k3, h, k5⟩:=vld_ok (Classical.not_not.1 h1)
 rcases accE_ok (ri:=ri) (n:=n.toNat) (m:=m.toNat) h with ⟨_, b, e⟩ | ⟨_, b, e⟩
 ·exact ⟨b.wide, by omega⟩
 ·rw [b, e]; exact ⟨hz, Nat.zero_le _⟩
theorem lawAccelerates (p : Pro) (hp : okP p) (s : Siz) (c : Cfg) (hc : okC c) (x : Stp) : PSpec Tryz.prog 5 [.agg (encP p), .agg (encPa s c), .agg (encX x)] (fun u=>u = .bool true):=by
 have hF:=AccelG p s c hp hc x.rule x.process x.partner
 have hR:=AccelH p s c hp hc x.rule x.process x.partner
 have hs:=saneF
 obtain ⟨w1, w2⟩:=accO_le p s c x.rule x.process x.partner
 generalize accO p s c x.rule x.process x.partner = R at hF hR w1 w2
 obtain ⟨d, xs, e⟩:=R
 unfold accV at hF hR
 dsimp only at hF hR w1 w2
 have h1:=sameCfgZ d w1
 have h2:=sameStepsZ xs w2
 refine PSpec.intro tt_ok mx_ok Tryz.func5 rfl (by decide) ?_; (conv=>whnf)
 refine boxP rfl ?_
 conv=>whnf
 refine boxP rfl ?_
 conv=>whnf
 refine boxP rfl ?_
 conv=>whnf
 apply once6
 case k =>
  intro o1 o2 o3 o4 o5 o6
  refine drawC [0, 1, 2, 3] (by decide +kernel) ?_
  conv=>whnf
  repeat' first
   |exact True.intro
   |(refine And.intro ?_ ?_ <;> conv=>whnf)
   |with_reducible exact o1
   |with_reducible exact o2
   |with_reducible exact o3
   |with_reducible exact o4
   |with_reducible exact o5
   |with_reducible exact o6
   |fail
 all_goals try first
  |exact True.intro
  |exact True
 all_goals
  refine dI ?_
  conv=>whnf
  (refine oP (hF) ?_; conv=>whnf)
  (refine oP (hR) ?_; conv=>whnf)
  refine cmpT rfl ?_
  conv=>whnf
  (refine oP (h1) ?_; conv=>whnf)
  (refine oP (h2) ?_; conv=>whnf)
  (refine oP (hs) ?_; conv=>whnf)
  exact ⟨rfl, rfl⟩
end Go.Proofs.YtkanoljhphmdcaaGreatDoor
