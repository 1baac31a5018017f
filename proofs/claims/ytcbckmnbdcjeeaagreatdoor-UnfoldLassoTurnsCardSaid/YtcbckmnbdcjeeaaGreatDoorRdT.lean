
/-
  Reading runs.
-/
import Derived.Test.YtcbckmnbdcjeeaaGreatDoorRdS
import Derived.Test.YtcbckmnbdcjeeaaGreatDoorA1
set_option linter.unusedVariables false
set_option linter.unusedSimpArgs false
namespace Go.Proofs.YtcbckmnbdcjeeaaGreatDoor
def runS : Sh := intsS (intsS (.int (intsS (intsS (.int (.sl stpS .nil))))))
def runOf : Den runS → Rn
  | (a, b, c, d, e, f, g, _) => ⟨⟨nums a, nums b, c, nums d, nums e, f⟩, List.map stpOf g⟩
section
variable {S : Store}
theorem cv_steps (l : List (Den stpS)) : Cv S (.sl (dflt stpS) (encS stpS) l) (.sl stp0 encX (l.map stpOf)) :=
  Cv.sl (d := dflt stpS) (enc := encS stpS) stp0 encX stpOf fun y _ => ⟨cv_step y, rfl⟩
theorem cv_run (y : Den runS) : CvL S (encS runS y) (encRn (runOf y)) := by
  obtain ⟨a, b, c, d, e, f, g, ⟨⟩⟩ := y
  exact ⟨Cv.ints a, Cv.ints b, Cv.refl _ _, Cv.ints d, Cv.ints e, Cv.refl _ _, cv_steps g, trivial⟩
end
end Go.Proofs.YtcbckmnbdcjeeaaGreatDoor
