
/-
  Which configurations have what the properties look at; which are reached.
-/
import Derived.Test.YtgbicnldbhfhiaaDoorFnZ
set_option linter.unusedVariables false
set_option linter.unusedSimpArgs false
namespace Go.Proofs.YtgbicnldbhfhiaaDoor
set_option maxRecDepth 100000
set_option maxHeartbeats 8000000

theorem wide_le {c : Cfg} (hw : wideB c = false) : c.shape.length ≤ 100 ∧ c.states.length ≤ 100 ∧ c.sent.length ≤ 100 ∧ c.faulty.length ≤ 100 := by
  unfold wideB at hw
  simp at hw
  omega
def plB (p : Pro) (c : Cfg) : Prop := inR c.states p.states.length ∧ 0 ≤ c.correct ∧ c.correct ≤ c.states.length
noncomputable instance decPl (p : Pro) (c : Cfg) : Decidable (plB p c) := Classical.propDecidable _
def trB (p : Pro) (c : Cfg) : Prop := p.topology = 4 → c.shape.length = c.states.length ∧ shp c.shape
noncomputable instance decTr (p : Pro) (c : Cfg) : Decidable (trB p c) := Classical.propDecidable _
theorem inR_scan {l : List Int} {n : Int} {k : Nat} (h : ∀ j, j < k → 0 ≤ l.getD j 0 ∧ l.getD j 0 < n) (hk : l.length ≤ k) : inR l n := fun j hj => h j (by omega)

/-- all correct processes are in the goal -/
def rchB (q : Prp) (c : Cfg) : Prop := ∀ j : Nat, (j : Int) < c.correct → c.states.getD j 0 ∈ q.goal
noncomputable instance decRch (q : Prp) (c : Cfg) : Decidable (rchB q c) := Classical.propDecidable _
theorem getD_take {l : List Int} {k n : Nat} (h : k < n) : (l.take n).getD k 0 = l.getD k 0 := by
  rw [List.getD_eq_getElem?_getD, List.getD_eq_getElem?_getD, List.getElem?_take, if_pos h]
noncomputable def rcE (p : Pro) (q : Prp) (c : Cfg) : AV :=
  if propE p q ≠ 0 then .tup [.bool false, .int .i64 (propE p q)] else if q.kind ≠ 2 then .tup [.bool false, .int .i64 7] else if plB p c then .tup [.bool (decide (rchB q c)), .int .i64 0] else .tup [.bool false, .int .i64 1]
end Go.Proofs.YtgbicnldbhfhiaaDoor
