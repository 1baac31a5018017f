
/-
  Reading a configuration together with its family and size.
-/
import Derived.Test.YtcbckmnbdcjeeaaGreatDoorRdP
import Derived.Test.YtcbckmnbdcjeeaaGreatDoorFnX
set_option linter.unusedVariables false
set_option linter.unusedSimpArgs false
namespace Go.Proofs.YtcbckmnbdcjeeaaGreatDoor
def atS : Sh := .str (.int (.sl (.str .nil) (.sl (.str .nil) (.sl (.str .nil) (.int (.sl linS (intsS (intsS (.sl rulS (.int (.int (.int (intsS (intsS (.int (intsS (intsS (.int .nil))))))))))))))))))
def atP : Den atS → Pro
  | (a, b, c, d, e, f, g, h, i, j, _) => ⟨a, b, txts c, txts d, txts e, f, List.map linOf g, nums h, nums i, List.map rulOf j⟩
def atZ : Den atS → Siz
  | (_, _, _, _, _, _, _, _, _, _, a, b, c, _) => ⟨a, b, c⟩
def atC : Den atS → Cfg
  | (_, _, _, _, _, _, _, _, _, _, _, _, _, a, b, c, d, e, f, _) => ⟨nums a, nums b, c, nums d, nums e, f⟩
theorem cv_at {S : Store} (y : Den atS) : CvL S (encS atS y) (encAt (atP y) (atZ y) (atC y)) := by
  obtain ⟨a, b, c, d, e, f, g, h, i, j, a1, b1, c1, a2, b2, c2, d2, e2, f2, ⟨⟩⟩ := y
  exact ⟨Cv.refl _ _, Cv.refl _ _, Cv.strs c, Cv.strs d, Cv.strs e, Cv.refl _ _, cv_lins g, Cv.ints h, Cv.ints i, cv_ruls j, Cv.refl _ _, Cv.refl _ _, Cv.refl _ _, Cv.ints a2, Cv.ints b2, Cv.refl _ _, Cv.ints d2, Cv.ints e2, Cv.refl _ _, trivial⟩
end Go.Proofs.YtcbckmnbdcjeeaaGreatDoor
