import Derived.Test.YtkanoljhphmdcaaGreatDoorGaG
import Derived.Test.YtkanoljhphmdcaaGreatDoorY1
import Derived.Test.YtkanoljhphmdcaaGreatDoorFwH
import Derived.Test.YtkanoljhphmdcaaGreatDoorFwG
set_option linter.unusedVariables false
set_option linter.unusedSimpArgs false
namespace Go.Proofs.YtkanoljhphmdcaaGreatDoor
set_option maxRecDepth 100000
set_option maxHeartbeats 16000000
theorem lawOrders (p : Pro) (q : Prp) (hp : okP p) (hq : okQ q) (s : Siz) (c : Cfg) (hc : okC c) : PSpec Tryz.prog 3 [.agg (encPQ p q), .agg (encZ s), .agg (encC c)] (fun u => u = .bool true) := by
 have hOF := OrderF p q hp hq
 have hOR := OrderR p q hp hq
 have hUF := UnlockedG p s c hp hc
 have hUR := UnlockedH p s c hp hc
 have hSF := StoppedG p s c hp hc
 have hSR := StoppedH p s c hp hc
 have hs := saneF
 have h1 : (∃ e : Int, ordA p q = .tup [.nilsl, .int .i64 e]) ∨ (∃ l : List Int, l.length ≤ 1000000 ∧ ordA p q = .tup [.sl 0 encI l, .int .i64 0]) := by
  by_cases h : chkE p q = 0
  ·refine .inr ⟨ordL p.rules p.states.length, ?_, ?_⟩
   ·have hv := (vlq_of (chk_prop h)).vld
    have hle := bigP_le (not_big hv)
    have hl := flat_le (fun x : Nat => ((List.range p.rules.length).filter fun r => decide ((p.rules.getD r rul0).src = (x : Int))).map fun r : Nat => (r : Int)) 30 (List.range p.states.length) (fun a _ => by
     rw [List.length_map]
     have := List.length_filter_le (fun r => decide ((p.rules.getD r rul0).src = (a : Int))) (List.range p.rules.length)
     rw [List.length_range] at this
     omega)
    rw [List.length_range] at hl
    unfold ordL
    omega
   ·rw [ordA, if_neg (by omega)]
  ·exact .inl ⟨chkE p q, by rw [ordA, if_pos h]⟩
 have h2 : (∃ e : Int, unlA p s c = .tup [.nilsl, .int .i64 e] ∧ stoA p s c = .tup [.bool false, .int .i64 e]) ∨ (∃ (l : List Int) (b : Bool), l.length ≤ 1000000 ∧ unlA p s c = .tup [.sl 0 encI l, .int .i64 0] ∧ stoA p s c = .tup [.bool b, .int .i64 0]) := by
  by_cases h : vldE p s c = 0
  ·obtain ⟨k1, k2, k3, k4, k5⟩ := vld_ok h
   have hT := (vld_of k4.val).thr
   have hl := unlL_len p s c (thrL p.rules).length
   exact .inr ⟨unlL p s c (thrL p.rules).length, _, by omega, by rw [unlA, if_neg (by omega)], by rw [stoA, if_neg (by omega)]⟩
  ·exact .inl ⟨vldE p s c, by rw [unlA, if_pos h], by rw [stoA, if_pos h]⟩
 rcases h1 with ⟨e1, h1⟩ | ⟨l1, hl1, h1⟩ <;> rcases h2 with ⟨e2, h2, h3⟩ | ⟨l2, b2, hl2, h2, h3⟩
 all_goals
  rw [h1] at hOF hOR
  rw [h2] at hUF hUR
  rw [h3] at hSF hSR
  clear h1 h2 h3
  refine PSpec.intro tt_ok mx_ok Tryz.func3 rfl (by decide) ?_; (conv => whnf)
  refine boxP rfl ?_
  conv => whnf
  refine boxP rfl ?_
  conv => whnf
  refine boxP rfl ?_
  conv => whnf
  apply once6
  case k =>
   intro o1 o2 o3 o4 o5 o6
   refine drawC [0, 1, 2, 3] (by decide +kernel) ?_
   conv => whnf
   repeat' first
    |exact True.intro
    |(refine And.intro ?_ ?_ <;> conv => whnf)
    |with_reducible exact o1
    |with_reducible exact o2
    |with_reducible exact o3
    |with_reducible exact o4
    |with_reducible exact o5
    |with_reducible exact o6
    |fail
  all_goals try first
   |exact True.intro
   |exact True
 all_goals
  (refine oP (hOF) ?_; conv => whnf)
  (refine oP (hOR) ?_; conv => whnf)
  (refine oP (hUF) ?_; conv => whnf)
  (refine oP (hUR) ?_; conv => whnf)
  (refine oP (hSF) ?_; conv => whnf)
  (refine oP (hSR) ?_; conv => whnf)
  repeat' ((first|refine nI ?_|refine aI ?_|refine tI ?_|refine fI ?_|fail);conv => whnf)
 iterate 2
  ·(refine oP (sameNil) ?_; conv => whnf)
   repeat' ((first|refine nI ?_|refine aI ?_|refine tI ?_|refine fI ?_|fail);conv => whnf)
   (refine oP (sameNil) ?_; conv => whnf)
   repeat' ((first|refine nI ?_|refine aI ?_|refine tI ?_|refine fI ?_|fail);conv => whnf)
   (refine oP (hs) ?_; conv => whnf)
   exact ⟨rfl, rfl⟩
 iterate 2
  ·(refine oP (sameNil) ?_; conv => whnf)
   repeat' ((first|refine nI ?_|refine aI ?_|refine tI ?_|refine fI ?_|fail);conv => whnf)
   (refine oP (sameIntsP l2 hl2) ?_; conv => whnf)
   repeat' ((first|refine nI ?_|refine aI ?_|refine tI ?_|refine fI ?_|fail);conv => whnf)
   cases b2
   all_goals
    conv => whnf
    repeat' ((first|refine nI ?_|refine aI ?_|refine tI ?_|refine fI ?_|fail);conv => whnf)
    (refine oP (hs) ?_; conv => whnf)
    exact ⟨rfl, rfl⟩
 iterate 2
  ·(refine oP (sameIntsP l1 hl1) ?_; conv => whnf)
   repeat' ((first|refine nI ?_|refine aI ?_|refine tI ?_|refine fI ?_|fail);conv => whnf)
   (refine oP (sameNil) ?_; conv => whnf)
   repeat' ((first|refine nI ?_|refine aI ?_|refine tI ?_|refine fI ?_|fail);conv => whnf)
   (refine oP (hs) ?_; conv => whnf)
   exact ⟨rfl, rfl⟩
 iterate 2
  ·(refine oP (sameIntsP l1 hl1) ?_; conv => whnf)
   repeat' ((first|refine nI ?_|refine aI ?_|refine tI ?_|refine fI ?_|fail);conv => whnf)
   (refine oP (sameIntsP l2 hl2) ?_; conv => whnf)
   repeat' ((first|refine nI ?_|refine aI ?_|refine tI ?_|refine fI ?_|fail);conv => whnf)
   cases b2
   all_goals
    conv => whnf
    repeat' ((first|refine nI ?_|refine aI ?_|refine tI ?_|refine fI ?_|fail);conv => whnf)
    (refine oP (hs) ?_; conv => whnf)
    exact ⟨rfl, rfl⟩
end Go.Proofs.YtkanoljhphmdcaaGreatDoor
