
/-
  Enabled and Forced of any arguments; the laws UnfoldEnables and UnfoldForces.
-/
import Derived.Test.YtgbicnldbhfhiaaGreatDoorFoL
set_option linter.unusedVariables false
set_option linter.unusedSimpArgs false
namespace Go.Proofs.YtgbicnldbhfhiaaGreatDoor
set_option maxRecDepth 100000
set_option maxHeartbeats 16000000

/-- a pair of a rule and a process is forced -/
def fcB (p : Pro) (s : Siz) (c : Cfg) (r i : Int) : Prop := i < c.correct ∧ ∃ k : Nat, k ≤ c.states.length ∧ enB p s c ⟨r, i, (k : Int) - 1⟩ true
noncomputable instance decFc (p : Pro) (s : Siz) (c : Cfg) (r i : Int) : Decidable (fcB p s c r i) := Classical.propDecidable _
/-- an answer behind the errors of a configuration -/
noncomputable def ansE (p : Pro) (s : Siz) (c : Cfg) (q : Prop) : AV := if vconE p s c ≠ 0 then .tup [.bool false, .int .i64 (vconE p s c)] else .tup [.bool (@decide q (Classical.propDecidable _)), .int .i64 0]
theorem dec_any {q : Prop} {i j : Decidable q} : AV.tup [.bool (@decide q i), .int .i64 0] = .tup [.bool (@decide q j), .int .i64 0] := by
  have : i = j := Subsingleton.elim i j
  rw [this]
theorem ansE_form (p : Pro) (s : Siz) (c : Cfg) (q : Prop) : ∃ (b : Bool) (e : Int), ansE p s c q = .tup [.bool b, .int .i64 e] := by
  unfold ansE
  split <;> exact ⟨_, _, rfl⟩
end Go.Proofs.YtgbicnldbhfhiaaGreatDoor
