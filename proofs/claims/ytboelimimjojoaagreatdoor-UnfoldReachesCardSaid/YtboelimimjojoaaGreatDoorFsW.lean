import Derived.Test.YtboelimimjojoaaGreatDoorMH
import Derived.Test.YtboelimimjojoaaGreatDoorMJ
import Derived.Test.YtboelimimjojoaaGreatDoorFsC
set_option linter.unusedVariables false
set_option linter.unusedSimpArgs false
namespace Go.Proofs.YtboelimimjojoaaGreatDoor
set_option maxRecDepth 100000
set_option maxHeartbeats 16000000
theorem lawReaches (p : Pro) (q : Prp) (s : Siz) : PSpec Tryz.prog 4 [.agg (encCs p q s)] (fun u => u = .bool true) := by
 refine PSpec.intro tt_ok mx_ok Tryz.func4 rfl (by decide) ?_; (conv => whnf)
 refine boxP rfl ?_
 conv => whnf
 refine dC (bigCaseF p q s) (fun _ => ?_) (fun _ => ?_) <;> (conv => whnf)
 ·(refine oP (knownF) ?_; conv => whnf)
  exact ⟨rfl, rfl⟩
 rename_i hb
 have hp : ¬ bigP p := fun h => hb (.inl h)
 have hq : ¬ bigQ q := fun h => hb (.inr h)
 refine dC (smallF s) (fun _ => ?_) (fun _ => ?_) <;> (conv => whnf)
 case refine_2 =>
  (refine oP (knownF) ?_; conv => whnf)
  exact ⟨rfl, rfl⟩
 have b1 := ReachF p q s hp hq
 have b2 := ReachR p q s hp hq
 obtain ⟨m, e, hm, hm2, hm3⟩ := rchE_form p q s hp hq
 rw [hm] at b1 b2
 (refine oP (b1) ?_; conv => whnf)
 (refine oP (b2) ?_; conv => whnf)
 refine cmpT rfl ?_
 conv => whnf
 (refine oP (sameConfigsB m (by omega) hm3) ?_; conv => whnf)
 (refine oP (knownF) ?_; conv => whnf)
 exact ⟨rfl, rfl⟩
end Go.Proofs.YtboelimimjojoaaGreatDoor
