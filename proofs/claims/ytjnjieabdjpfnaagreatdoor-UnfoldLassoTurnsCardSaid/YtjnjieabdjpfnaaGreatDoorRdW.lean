import Derived.Test.YtjnjieabdjpfnaaGreatDoorA1
import Derived.Test.YtjnjieabdjpfnaaGreatDoorME
set_option linter.unusedVariables false
set_option linter.unusedSimpArgs false
namespace Go.Proofs.YtjnjieabdjpfnaaGreatDoor
def lasS : Sh := intsS (intsS (.int (intsS (intsS (.int (.sl stpS (.sl stpS .nil)))))))
theorem shLas : shOf Tryz.prog 9 89 = some lasS := by kernel_rfl
def lasOf : Den lasS → Las
 |(a, b, c, d, e, f, g, h, _) => ⟨⟨nums a, nums b, c, nums d, nums e, f⟩, List.map stpOf g, List.map stpOf h⟩
theorem cv_las {S : Store} (y : Den lasS) : CvL S (encS lasS y) (encLs (lasOf y)) := by
 obtain ⟨a, b, c, d, e, f, g, h, ⟨⟩⟩ := y
 exact ⟨Cv.ints a, Cv.ints b, Cv.refl _ _, Cv.ints d, Cv.ints e, Cv.refl _ _, cv_steps g, cv_steps h, trivial⟩
end Go.Proofs.YtjnjieabdjpfnaaGreatDoor
