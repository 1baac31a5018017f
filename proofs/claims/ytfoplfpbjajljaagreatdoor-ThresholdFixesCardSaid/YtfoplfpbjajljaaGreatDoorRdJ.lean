import Derived.Test.YtfoplfpbjajljaaGreatDoorY1
set_option linter.unusedVariables false
set_option linter.unusedSimpArgs false
namespace Go.Proofs.YtfoplfpbjajljaaGreatDoor
open Go.ChangeShapes Go.WideShapes Go.ChangeAt Go.RowKit
def partS : Sh := .sl (.int .nil) (.int .nil)
theorem shPart : shOf Tryz.prog 9 63 = some partS := by kernel_rfl
theorem bytPart : bytB Tryz.prog 9 63 = true := by kernel_rfl
def partL : Den partS → List Int
 |(a, _, _) => nums a
def partN : Den partS → Int
 |(_, b, _) => b
def encPt (sch : List Int) (n : Int) : List AV := [.sl 0 encI sch, .int .i64 n]
theorem cv_part {S : Store} (y : Den partS) : CvL S (encS partS y) (encPt (partL y) (partN y)) := by
 obtain ⟨a, b, ⟨⟩⟩ := y
 exact ⟨Cv.ints a, Cv.refl _ _, trivial⟩
theorem part_z {y : Den partS} (h : szS partS y) : (partL y).length ≤ 140737488355328 := by
 obtain ⟨a, b, ⟨⟩⟩ := y
 simp only [partL, nums_len]
 exact h.1.1
end Go.Proofs.YtfoplfpbjajljaaGreatDoor
