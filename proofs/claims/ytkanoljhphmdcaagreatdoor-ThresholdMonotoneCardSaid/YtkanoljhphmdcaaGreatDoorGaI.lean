import Derived.Test.YtkanoljhphmdcaaGreatDoorGaG
import Derived.Test.YtkanoljhphmdcaaGreatDoorY1
import Derived.Test.YtkanoljhphmdcaaGreatDoorRdM
set_option linter.unusedVariables false
set_option linter.unusedSimpArgs false
namespace Go.Proofs.YtkanoljhphmdcaaGreatDoor
set_option maxRecDepth 100000
set_option maxHeartbeats 16000000
theorem lawMonotoneT (p : Pro) (hp : okP p) (s : Siz) (c : Cfg) (hc : okC c) (x : Stp) : PSpec Tryz.prog 4 [.agg (encP p), .agg (encPa s c), .agg (encX x)] (fun u => u = .bool true) := by
 have hU := UnlockedG p s c hp hc
 have hA := ApplyG p s c x hp hc
 have hs := saneF
 have hX : ∃ (d : Cfg) (e : Int), aplA p s c x = .tup [.agg (encC d), .int .i64 e] ∧ (e = 0 → vconE p s c = 0 ∧ enB p s c x false ∧ apB c (rulX p x) x ∧ d = apC c (rulX p x) x) := by
  unfold aplA
  by_cases h1 : vconE p s c ≠ 0
  ·rw [if_pos h1]
   exact ⟨_, _, rfl, fun h => absurd h h1⟩
  rw [if_neg h1]
  by_cases h2 : ¬ enB p s c x false
  ·rw [if_pos h2]
   exact ⟨_, _, rfl, fun h => by omega⟩
  rw [if_neg h2]
  by_cases h3 : ¬ apB c (rulX p x) x
  ·rw [if_pos h3]
   exact ⟨_, _, rfl, fun h => by omega⟩
  rw [if_neg h3]
  exact ⟨_, _, rfl, fun _ => ⟨Classical.not_not.1 h1, Classical.not_not.1 h2, Classical.not_not.1 h3, rfl⟩⟩
 obtain ⟨d, e, hX, hX0⟩ := hX
 rw [hX] at hA
 clear hX
 refine PSpec.intro tt_ok mx_ok Tryz.func4 rfl (by decide) ?_; (conv => whnf)
 refine boxP rfl ?_
 conv => whnf
 refine boxP rfl ?_
 conv => whnf
 refine boxP rfl ?_
 conv => whnf
 apply once6
 case k =>
  intro o1 o2 o3 o4 o5 o6
  refine drawC [0, 1, 2, 3] (by decide +kernel) ?_
  conv => whnf
  repeat' first
   |exact True.intro
   |(refine And.intro ?_ ?_ <;> conv => whnf)
   |with_reducible exact o1
   |with_reducible exact o2
   |with_reducible exact o3
   |with_reducible exact o4
   |with_reducible exact o5
   |with_reducible exact o6
   |fail
 all_goals try first
  |exact True.intro
  |exact True
 all_goals
  by_cases hv : vldE p s c = 0
  rotate_left
  ·rw [unlA, if_pos hv] at hU
   (refine oP (hU) ?_; conv => whnf)
   (refine oP (hA) ?_; conv => whnf)
   refine cmpT hv ?_
   conv => whnf
   (refine oP (hs) ?_; conv => whnf)
   exact ⟨rfl, rfl⟩
  obtain ⟨k1, k2, k3, k4, k5⟩ := vld_ok hv
  rw [unlA, if_neg (by omega)] at hU
  (refine oP (hU) ?_; conv => whnf)
  (refine oP (hA) ?_; conv => whnf)
  refine fI ?_
  conv => whnf
  by_cases he : e = 0
  rotate_left
  ·refine cmpT he ?_
   conv => whnf
   (refine oP (hs) ?_; conv => whnf)
   exact ⟨rfl, rfl⟩
  refine cmpF (fun h => h he) ?_
  conv => whnf
  obtain ⟨q1, q2, q3, hd⟩ := hX0 he
  have hr : Rdy p s d := by rw [hd]; exact k4.next q2 q3
  have hw := wide_le hr.wide
  have hcd : okC d := by unfold okC; omega
  have hvd : vldE p s d = 0 := by
   unfold vldE
   rw [if_neg (fun y => y k1), if_neg (fun y => y k2), vcE, if_pos hr.vc]
  have hT := (vld_of k4.val).thr
  have hUd := UnlockedG p s d hp hcd
  rw [unlA, if_neg (by omega)] at hUd
  have la := unlL_len p s c (thrL p.rules).length
  have lb := unlL_len p s d (thrL p.rules).length
  have hin : ∀ i, i < (unlL p s c (thrL p.rules).length).length → ∃ t, t < (unlL p s d (thrL p.rules).length).length ∧ (unlL p s c (thrL p.rules).length).getD i 0 = (unlL p s d (thrL p.rules).length).getD t 0 := by
   intro i hi
   obtain ⟨a, ha, e1, h1⟩ := (unlL_mem p s c).1 (mem_getD 0 hi)
   have h2 : (a : Int) ∈ unlL p s d (thrL p.rules).length := (unlL_mem p s d).2 ⟨a, ha, rfl, by rw [hd]; exact unl_mono k4.val ha h1⟩
   obtain ⟨t, ht, e2⟩ := List.getElem_of_mem h2
   exact ⟨t, ht, by rw [e1, getD_elem 0 ht, e2]⟩
  generalize unlL p s c (thrL p.rules).length = A at *
  generalize unlL p s d (thrL p.rules).length = B at *
  (refine oP (hUd) ?_; conv => whnf)
  repeat' ((first|refine nI ?_|refine aI ?_|refine tI ?_|refine fI ?_|fail);conv => whnf)
  refine WPc.loopF tt_ok mx_ok (fun i : Nat => i ≤ A.length) (fun i => [(15, .int .i64 (i : Int))]) (fun _ => [(7, .box 34 (encZ s)), (8, .box 36 (encC c)), (11, .box 36 (encC d))]) (fun i => A.length - i) 0 (Nat.zero_le _) ?_; conv => whnf
  refine ⟨sI, ?_⟩
  rintro i hi
  conv => whnf
  refine cmpI ?_ ?_ <;> (intro g1; conv => whnf)
  ·have hil : i < A.length := by omega
   obtain ⟨t0, ht0, et0⟩ := hin i hil
   refine WPc.loopF tt_ok mx_ok (fun y : Nat × Bool => y.1 ≤ B.length ∧ (y.2 = true ↔ ∃ t, t < y.1 ∧ A.getD i 0 = B.getD t 0)) (fun y => [(17, .int .i64 (y.1 : Int)), (16, .bool y.2)]) (fun _ => [(7, .box 34 (encZ s)), (8, .box 36 (encC c)), (11, .box 36 (encC d))]) (fun y => B.length - y.1) (0, false) ⟨Nat.zero_le _, ⟨fun h => (by cases h), fun ⟨t, h, _⟩ => absurd h (Nat.not_lt_zero _)⟩⟩ ?_; conv => whnf
   refine ⟨sI, ?_⟩
   rintro ⟨j, b⟩ ⟨hj, hb⟩
   dsimp only at hj hb
   conv => whnf
   refine cmpI ?_ ?_ <;> (intro g2; conv => whnf)
   ·have hjl : j < B.length := by omega
    cases b with
    |true =>
     refine dI ?_
     conv => whnf
     repeat' ((first|refine nI ?_|refine aI ?_|refine tI ?_|refine fI ?_|fail);conv => whnf)
     obtain ⟨t, ht, et⟩ := hb.1 rfl
     exact ⟨(j + 1, true), sI, ⟨by dsimp only; omega, ⟨fun _ => ⟨t, by dsimp only; omega, et⟩, fun _ => rfl⟩⟩, by dsimp only; omega⟩
    |false =>
     refine dI ?_
     conv => whnf
     refine nI ?_
     rw [tN]
     conv => whnf
     refine nI ?_
     rw [tN]
     conv => whnf
     refine cmpI ?_ ?_ <;> (intro g3; conv => whnf)
     ·repeat' ((first|refine nI ?_|refine aI ?_|refine tI ?_|refine fI ?_|fail);conv => whnf)
      exact ⟨(j + 1, true), sI, ⟨by dsimp only; omega, ⟨fun _ => ⟨j, by dsimp only; omega, g3⟩, fun _ => rfl⟩⟩, by dsimp only; omega⟩
     ·repeat' ((first|refine nI ?_|refine aI ?_|refine tI ?_|refine fI ?_|fail);conv => whnf)
      refine ⟨(j + 1, false), sI, ⟨by dsimp only; omega, ⟨fun h => (by cases h), fun ⟨t, h, et⟩ => ?_⟩⟩, by dsimp only; omega⟩
      dsimp only at h
      by_cases e : t = j
      ·subst e; exact absurd et g3
      ·exact hb.2 ⟨t, by omega, et⟩
   ·have hjl : j = B.length := by omega
    cases b with
    |true =>
     conv => whnf
     repeat' ((first|refine nI ?_|refine aI ?_|refine tI ?_|refine fI ?_|fail);conv => whnf)
     exact ⟨i + 1, sI, by omega, by dsimp only; omega⟩
    |false =>
     exfalso
     have := hb.2 ⟨t0, by omega, et0⟩
     cases this
  ·(refine oP (hs) ?_; conv => whnf)
   exact ⟨rfl, rfl⟩
end Go.Proofs.YtkanoljhphmdcaaGreatDoor
