
/-
  Reading steps.
-/
import Derived.Test.YtgbicnldbhfhiaaDoorRdQ
import Derived.Test.YtgbicnldbhfhiaaDoorFoM
set_option linter.unusedVariables false
set_option linter.unusedSimpArgs false
namespace Go.Proofs.YtgbicnldbhfhiaaDoor
def stpS : Sh := .int (.int (.int .nil))
theorem shStep : shOf Tryd.prog 9 44 = some stpS := by kernel_rfl
def stpOf : Den stpS → Stp
  | (a, b, c, _) => ⟨a, b, c⟩
theorem cv_step {S : Store} (y : Den stpS) : CvL S (encS stpS y) (encX (stpOf y)) := by
  obtain ⟨a, b, c, ⟨⟩⟩ := y
  exact ⟨Cv.refl _ _, Cv.refl _ _, Cv.refl _ _, trivial⟩
end Go.Proofs.YtgbicnldbhfhiaaDoor
