import Derived.Test.YtnjggjhkfncnlaaGreatDoorM5
import Derived.Test.YtnjggjhkfncnlaaGreatDoorM7
import Derived.Test.YtnjggjhkfncnlaaGreatDoorFS
import Derived.Test.YtnjggjhkfncnlaaGreatDoorY1
import Derived.Test.YtnjggjhkfncnlaaGreatDoorGA
set_option linter.unusedVariables false
set_option linter.unusedSimpArgs false
namespace Go.Proofs.YtnjggjhkfncnlaaGreatDoor
def stpS : Sh:=.int (.int (.int .nil))
def stpOf : Den stpS → Stp
 |(a, b, c, _)=>⟨a, b, c⟩
theorem cv_step {S : Store} (y : Den stpS) : CvL S (encS stpS y) (encX (stpOf y)):=by
 obtain ⟨a, b, c, ⟨⟩⟩:=y
 exact ⟨Cv.refl _ _, Cv.refl _ _, Cv.refl _ _, trivial⟩
def runS : Sh:=intsS (intsS (.int (intsS (intsS (.int (.sl stpS .nil))))))
theorem shRun : shOf Tryz.prog 9 39 = some runS:=by kernel_rfl
def runOf : Den runS → Rn
 |(a, b, c, d, e, f, g, _)=>⟨⟨nums a, nums b, c, nums d, nums e, f⟩, List.map stpOf g⟩
section
variable {S : Store}
theorem cv_steps (l : List (Den stpS)) : Cv S (.sl (dflt stpS) (encS stpS) l) (.sl stp0 encX (l.map stpOf)) :=
 Cv.sl (d:=dflt stpS) (enc:=encS stpS) stp0 encX stpOf fun y _=>⟨cv_step y, rfl⟩
theorem cv_run (y : Den runS) : CvL S (encS runS y) (encRn (runOf y)):=by
 obtain ⟨a, b, c, d, e, f, g, ⟨⟩⟩:=y
 exact ⟨Cv.ints a, Cv.ints b, Cv.refl _ _, Cv.ints d, Cv.ints e, Cv.refl _ _, cv_steps g, trivial⟩
end
end Go.Proofs.YtnjggjhkfncnlaaGreatDoor
namespace Go.Proofs.YtnjggjhkfncnlaaGreatDoor
open Go.ChangeShapes Go.WideShapes Go.ChangeAt Go.RowKit
theorem bytRun : bytB Tryz.prog 9 39 = true:=by kernel_rfl
theorem run_z {y : Den runS} (h : szS runS y) : okC (runOf y).start ∧ (runOf y).steps.length ≤ 140737488355328:=by
 obtain ⟨a, b, c, d, e, f, g, ⟨⟩⟩:=y
 obtain ⟨⟨h1, _⟩, ⟨h2, _⟩, ⟨h3, _⟩, ⟨h4, _⟩, ⟨h5, _⟩, _⟩:=h
 simp only [okC, runOf, nums_len, List.length_map]
 exact ⟨⟨h1, h2, h3, h4⟩, h5⟩
end Go.Proofs.YtnjggjhkfncnlaaGreatDoor
