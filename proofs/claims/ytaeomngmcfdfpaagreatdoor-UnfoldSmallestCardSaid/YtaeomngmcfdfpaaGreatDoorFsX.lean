import Derived.Test.YtaeomngmcfdfpaaGreatDoorFsD
import Derived.Test.YtaeomngmcfdfpaaGreatDoorMH
import Derived.Test.YtaeomngmcfdfpaaGreatDoorMA
set_option linter.unusedVariables false
set_option linter.unusedSimpArgs false
namespace Go.Proofs.YtaeomngmcfdfpaaGreatDoor
set_option maxRecDepth 100000
set_option maxHeartbeats 16000000
theorem sameRunR : PSpec Tryz.prog 9 [.agg (encRn rn0), .agg (encRn rn0)] (fun u => u = .bool true) := by
 refine PSpec.intro tt_ok mx_ok Tryz.func9 rfl (by decide) ?_; (conv => whnf)
 refine boxP rfl ?_
 conv => whnf
 refine boxP rfl ?_
 conv => whnf
 (refine oP (compareR cfg0 cfg0 rfl) ?_; conv => whnf)
 refine cmpT rfl ?_
 conv => whnf
 (refine oP (sameStepsR [] (by simp)) ?_; conv => whnf)
 exact ⟨rfl, rfl⟩
theorem sameRunS : Spec Tryz.prog 9 [.agg (encRn rn0), .agg (encRn rn0)] (Mem.ofL []) (fun u _ => u = .bool true) := Spec.of_pure (n := 5) sameRunR rfl fun u h => h
end Go.Proofs.YtaeomngmcfdfpaaGreatDoor
