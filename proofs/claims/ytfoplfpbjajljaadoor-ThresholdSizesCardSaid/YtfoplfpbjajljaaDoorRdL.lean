import Derived.Test.YtfoplfpbjajljaaDoorY1
import Derived.Test.YtfoplfpbjajljaaDoorFzU
set_option linter.unusedVariables false
set_option linter.unusedSimpArgs false
namespace Go.Proofs.YtfoplfpbjajljaaDoor
open Go.ChangeShapes Go.WideShapes Go.ChangeAt Go.RowKit
def spotS : Sh := .int (.int (.int (.sl (.int .nil) .nil)))
theorem shSpot : shOf Tryd.prog 9 53 = some spotS := by kernel_rfl
theorem bytSpot : bytB Tryd.prog 9 53 = true := by kernel_rfl
def spotZ : Den spotS → Siz
 |(a, b, c, _, _) => ⟨a, b, c⟩
def spotX : Den spotS → List Int
 |(_, _, _, d, _) => nums d
theorem cv_spot {S : Store} (y : Den spotS) : CvL S (encS spotS y) (encSp (spotZ y) (spotX y)) := by
 obtain ⟨a, b, c, d, ⟨⟩⟩ := y
 exact ⟨Cv.refl _ _, Cv.refl _ _, Cv.refl _ _, Cv.ints d, trivial⟩
theorem spot_z {y : Den spotS} (h : szS spotS y) : (spotX y).length ≤ 140737488355328 := by
 obtain ⟨a, b, c, d, ⟨⟩⟩ := y
 simp only [spotX, nums_len]
 exact h.1.1
end Go.Proofs.YtfoplfpbjajljaaDoor
