import Derived.Test.YtkanoljhphmdcaaGreatDoorP1
set_option linter.unusedVariables false
set_option linter.unusedSimpArgs false
namespace Go.Proofs.YtkanoljhphmdcaaGreatDoor
set_option maxRecDepth 100000
set_option maxHeartbeats 16000000
def clsT (p : Pro) : AV → Prop:=fun u=>∃ b c d e : Bool, u = .tup [.agg [.bool (decide (thrB p)), .bool b, .bool c, .bool d, .bool e], .int .i64 0]
theorem rise_up {p : Pro} {k : Nat} {a : Bool} (hk : k < p.rules.length) (h : a = true ↔ p.topology = 1 ∧ p.values.length = 0 ∧ ∀ j, j < k → riseB (p.rules.getD j rul0)) (hr : riseB (p.rules.getD k rul0)) : a = true ↔ p.topology = 1 ∧ p.values.length = 0 ∧ ∀ j, j < k + 1 → riseB (p.rules.getD j rul0):=by
 rw [h]
 refine ⟨fun ⟨a, b, c⟩=>⟨a, b, fun j hj=>?_⟩, fun ⟨a, b, c⟩=>⟨a, b, fun j hj=>c j (by omega)⟩⟩
 by_cases e : j = k
 ·subst e; exact hr
 ·exact c j (by omega)
theorem rise_no {p : Pro} {k : Nat} (hr : ¬ riseB (p.rules.getD k rul0)) : (false = true) ↔ p.topology = 1 ∧ p.values.length = 0 ∧ ∀ j, j < k + 1 → riseB (p.rules.getD j rul0) :=
 ⟨fun h=>(by cases h), fun ⟨_, _, c⟩=>absurd (c k (by omega)) hr⟩
theorem rise_end {p : Pro} {k : Nat} {a : Bool} (hk : k = p.rules.length) (h : a = true ↔ p.topology = 1 ∧ p.values.length = 0 ∧ ∀ j, j < k → riseB (p.rules.getD j rul0)) : a = decide (thrB p):=by
 subst hk
 cases a with
 |true=>exact (decide_eq_true (h.1 rfl)).symm
 |false=>exact (decide_eq_false fun hh=>by have:=h.2 hh; cases this).symm
end Go.Proofs.YtkanoljhphmdcaaGreatDoor
