import Derived.Test.YtkanoljhphmdcaaGreatDoorY1
import Derived.Test.YtkanoljhphmdcaaGreatDoorGA
set_option linter.unusedVariables false
set_option linter.unusedSimpArgs false
namespace Go.Proofs.YtkanoljhphmdcaaGreatDoor
open Go.ChangeShapes Go.WideShapes Go.ChangeAt Go.RowKit
theorem bytPro : bytB Tryz.prog 9 27 = true := by kernel_rfl
theorem bytCfg : bytB Tryz.prog 9 36 = true := by kernel_rfl
theorem okC_z {y : Den cfgS} (h : szS cfgS y) : okC (cfgOf y) := by
 obtain ⟨a, b, c, d, e, f, ⟨⟩⟩ := y
 obtain ⟨⟨h1, _⟩, ⟨h2, _⟩, ⟨h3, _⟩, ⟨h4, _⟩, _⟩ := h
 simp only [okC, cfgOf, nums_len]
 exact ⟨h1, h2, h3, h4⟩
def patS : Sh := .int (.int (.int (intsS (intsS (.int (intsS (intsS (.int .nil))))))))
theorem shPat : shOf Tryz.prog 9 47 = some patS := by kernel_rfl
theorem bytPat : bytB Tryz.prog 9 47 = true := by kernel_rfl
def patZ : Den patS → Siz
 |(a, b, c, _) => ⟨a, b, c⟩
def patC : Den patS → Cfg
 |(_, _, _, a, b, c, d, e, f, _) => ⟨nums a, nums b, c, nums d, nums e, f⟩
def encPa (s : Siz) (c : Cfg) : List AV := encZ s ++ encC c
theorem cv_pat {S : Store} (y : Den patS) : CvL S (encS patS y) (encPa (patZ y) (patC y)) := by
 obtain ⟨x, y, z, a, b, c, d, e, f, ⟨⟩⟩ := y
 exact ⟨Cv.refl _ _, Cv.refl _ _, Cv.refl _ _, Cv.ints a, Cv.ints b, Cv.refl _ _, Cv.ints d, Cv.ints e, Cv.refl _ _, trivial⟩
theorem okC_pat {y : Den patS} (h : szS patS y) : okC (patC y) := by
 obtain ⟨x, y, z, a, b, c, d, e, f, ⟨⟩⟩ := y
 obtain ⟨⟨h1, _⟩, ⟨h2, _⟩, ⟨h3, _⟩, ⟨h4, _⟩, _⟩ := h
 simp only [okC, patC, nums_len]
 exact ⟨h1, h2, h3, h4⟩
def psmS : Sh := .int (.int (.int .nil))
theorem shPsm : shOf Tryz.prog 9 49 = some psmS := by kernel_rfl
def psmOf : Den psmS → Stp
 |(a, b, c, _) => ⟨a, b, c⟩
theorem cv_psm {S : Store} (y : Den psmS) : CvL S (encS psmS y) (encX (psmOf y)) := by
 obtain ⟨a, b, c, ⟨⟩⟩ := y
 exact ⟨Cv.refl _ _, Cv.refl _ _, Cv.refl _ _, trivial⟩
end Go.Proofs.YtkanoljhphmdcaaGreatDoor
