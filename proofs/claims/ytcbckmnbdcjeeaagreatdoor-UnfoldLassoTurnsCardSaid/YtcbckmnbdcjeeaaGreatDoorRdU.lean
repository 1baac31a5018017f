
/-
  Reading a family together with a property and a size.
-/
import Derived.Test.YtcbckmnbdcjeeaaGreatDoorRdR
import Derived.Test.YtcbckmnbdcjeeaaGreatDoorFpBa
set_option linter.unusedVariables false
set_option linter.unusedSimpArgs false
namespace Go.Proofs.YtcbckmnbdcjeeaaGreatDoor
def casS : Sh := .str (.int (.sl (.str .nil) (.sl (.str .nil) (.sl (.str .nil) (.int (.sl linS (intsS (intsS (.sl rulS (.str (.int (intsS (.sl cntS (intsS (intsS (.int (.int (.int .nil))))))))))))))))))
theorem shCase : shOf Tryz.prog 9 51 = some casS := by kernel_rfl
def casP : Den casS → Pro
  | (a, b, c, d, e, f, g, h, i, j, _) => ⟨a, b, txts c, txts d, txts e, f, List.map linOf g, nums h, nums i, List.map rulOf j⟩
def casQ : Den casS → Prp
  | (_, _, _, _, _, _, _, _, _, _, a, b, c, d, e, f, _) => ⟨a, b, nums c, List.map cntOf d, nums e, nums f⟩
def casZ : Den casS → Siz
  | (_, _, _, _, _, _, _, _, _, _, _, _, _, _, _, _, a, b, c, _) => ⟨a, b, c⟩
theorem cv_case {S : Store} (y : Den casS) : CvL S (encS casS y) (encCs (casP y) (casQ y) (casZ y)) := by
  obtain ⟨a, b, c, d, e, f, g, h, i, j, a2, b2, c2, d2, e2, f2, a1, b1, c1, ⟨⟩⟩ := y
  exact ⟨Cv.refl _ _, Cv.refl _ _, Cv.strs c, Cv.strs d, Cv.strs e, Cv.refl _ _, cv_lins g, Cv.ints h, Cv.ints i, cv_ruls j, Cv.refl _ _, Cv.refl _ _, Cv.ints c2, cv_cnts d2, Cv.ints e2, Cv.ints f2, Cv.refl _ _, Cv.refl _ _, Cv.refl _ _, trivial⟩
end Go.Proofs.YtcbckmnbdcjeeaaGreatDoor
