
/-
  Reading steps.
-/
import Derived.Test.YtcbckmnbdcjeeaaGreatDoorRdQ
import Derived.Test.YtcbckmnbdcjeeaaGreatDoorFoM
set_option linter.unusedVariables false
set_option linter.unusedSimpArgs false
namespace Go.Proofs.YtcbckmnbdcjeeaaGreatDoor
def stpS : Sh := .int (.int (.int .nil))
theorem shStep : shOf Tryz.prog 9 87 = some stpS := by kernel_rfl
def stpOf : Den stpS → Stp
  | (a, b, c, _) => ⟨a, b, c⟩
theorem cv_step {S : Store} (y : Den stpS) : CvL S (encS stpS y) (encX (stpOf y)) := by
  obtain ⟨a, b, c, ⟨⟩⟩ := y
  exact ⟨Cv.refl _ _, Cv.refl _ _, Cv.refl _ _, trivial⟩
end Go.Proofs.YtcbckmnbdcjeeaaGreatDoor
