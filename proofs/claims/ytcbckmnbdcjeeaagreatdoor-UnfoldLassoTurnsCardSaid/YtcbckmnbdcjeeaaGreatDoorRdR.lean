
/-
  Reading properties.
-/
import Derived.Test.YtcbckmnbdcjeeaaGreatDoorRdP
import Derived.Test.YtcbckmnbdcjeeaaGreatDoorFoE
set_option linter.unusedVariables false
set_option linter.unusedSimpArgs false
namespace Go.Proofs.YtcbckmnbdcjeeaaGreatDoor
def cntS : Sh := intsS (.int .nil)
def prpS : Sh := .str (.int (intsS (.sl cntS (intsS (intsS .nil)))))
theorem shProp : shOf Tryz.prog 9 43 = some prpS := by kernel_rfl
def cntOf : Den cntS → Cnt
  | (a, b, _) => ⟨nums a, b⟩
def prpOf : Den prpS → Prp
  | (a, b, c, d, e, f, _) => ⟨a, b, nums c, List.map cntOf d, nums e, nums f⟩
section
variable {S : Store}
theorem cv_cnt (y : Den cntS) : CvL S (encS cntS y) (encCnt (cntOf y)) := by
  obtain ⟨a, b, ⟨⟩⟩ := y
  exact ⟨Cv.ints a, Cv.refl _ _, trivial⟩
theorem cv_cnts (l : List (Den cntS)) : Cv S (.sl (dflt cntS) (encS cntS) l) (.sl cnt0 encCnt (l.map cntOf)) :=
  Cv.sl (d := dflt cntS) (enc := encS cntS) cnt0 encCnt cntOf fun y _ => ⟨cv_cnt y, rfl⟩
theorem cv_prop (y : Den prpS) : CvL S (encS prpS y) (encQ (prpOf y)) := by
  obtain ⟨a, b, c, d, e, f, ⟨⟩⟩ := y
  exact ⟨Cv.refl _ _, Cv.refl _ _, Cv.ints c, cv_cnts d, Cv.ints e, Cv.ints f, trivial⟩
end
end Go.Proofs.YtcbckmnbdcjeeaaGreatDoor
