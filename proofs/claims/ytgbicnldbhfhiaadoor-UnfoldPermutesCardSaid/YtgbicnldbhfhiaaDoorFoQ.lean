
/-
  The law UnfoldApplies.
-/
import Derived.Test.YtgbicnldbhfhiaaDoorFoP
set_option linter.unusedVariables false
set_option linter.unusedSimpArgs false
namespace Go.Proofs.YtgbicnldbhfhiaaDoor
set_option maxRecDepth 100000
set_option maxHeartbeats 16000000

theorem apC_wide {c : Cfg} {r : Rul} {x : Stp} (hw : wideB c = false) : wideB (apC c r x) = false := by
  have hc := wide_le hw
  have h1 : (apC c r x).sent.length = c.sent.length := by unfold apC; dsimp only; split <;> simp [bumpL_len]
  have h2 : (apC c r x).faulty.length = c.faulty.length := by unfold apC; dsimp only; split <;> simp [bumpL_len]
  have h3 : (apC c r x).states.length = c.states.length := stN_len c r x
  have h4 : (apC c r x).shape.length = c.shape.length := rfl
  unfold wideB
  simp only [Bool.or_eq_false_iff, decide_eq_false_iff_not]
  omega
def bxK (c : Cfg) : Blk := .box 31 (encC c)
def bxL (c : Cfg) : Blk := .box 31 [.row 1001 c.shape.length 1, .row 1002 c.states.length 1, .int .i64 c.correct, .row 1003 c.sent.length 1, .row 1004 c.faulty.length 1, .int .i64 c.value]
def lwM (c a : Cfg) (st se : List Int) : List (Nat × Blk) := [(5, bxK c), (6, bxL a), (8, bxK a), (1001, rowN a.shape), (1002, rowN st), (1003, rowN se), (1004, rowN a.faulty)]
end Go.Proofs.YtgbicnldbhfhiaaDoor
