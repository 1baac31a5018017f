
/-
  Bad of any arguments; the law UnfoldJudges.
-/
import Derived.Test.YtgbicnldbhfhiaaDoorFoD
set_option linter.unusedVariables false
set_option linter.unusedSimpArgs false
namespace Go.Proofs.YtgbicnldbhfhiaaDoor
set_option maxRecDepth 100000
set_option maxHeartbeats 8000000

noncomputable def bdE (p : Pro) (q : Prp) (c : Cfg) : AV :=
  if propE p q ≠ 0 then .tup [.bool false, .int .i64 (propE p q)] else if q.kind ≠ 1 then .tup [.bool false, .int .i64 7] else if plB p c ∧ trB p c then .tup [.bool (decide (badB p q c)), .int .i64 0] else .tup [.bool false, .int .i64 1]
theorem bdE_form (p : Pro) (q : Prp) (c : Cfg) : ∃ (b : Bool) (e : Int), bdE p q c = .tup [.bool b, .int .i64 e] := by
  unfold bdE
  (repeat' split) <;> exact ⟨_, _, rfl⟩
theorem rcE_form (p : Pro) (q : Prp) (c : Cfg) : ∃ (b : Bool) (e : Int), rcE p q c = .tup [.bool b, .int .i64 e] := by
  unfold rcE
  (repeat' split) <;> exact ⟨_, _, rfl⟩
end Go.Proofs.YtgbicnldbhfhiaaDoor
