
/-
  Neighbors by the document's answer.
-/
import Derived.Test.YtgbicnldbhfhiaaDoorFnY
set_option linter.unusedVariables false
set_option linter.unusedSimpArgs false
namespace Go.Proofs.YtgbicnldbhfhiaaDoor
set_option maxRecDepth 100000
set_option maxHeartbeats 8000000

theorem isPar_a {l : List Int} {j k : Nat} (h : l.getD k 0 = 2) (h2 : k + 1 = j) : isPar l j k = true := by unfold isPar; rw [decide_eq_true h, decide_eq_true h2]; rfl
theorem isPar_b {l : List Int} {j k : Nat} (h : l.getD k 0 = 2) (h2 : endAt l (k + 1) = j) : isPar l j k = true := by unfold isPar; rw [decide_eq_true h, decide_eq_true h2]; cases decide (k + 1 = j) <;> rfl
theorem isPar_c {l : List Int} {j k : Nat} (h : ¬ k + 1 = j) (h2 : ¬ endAt l (k + 1) = j) : isPar l j k = false := by unfold isPar; rw [decide_eq_false h, decide_eq_false h2]; cases decide (l.getD k 0 = 2) <;> rfl
theorem isPar_d {l : List Int} {j k : Nat} (h : ¬ l.getD k 0 = 2) : isPar l j k = false := by unfold isPar; rw [decide_eq_false h]; rfl
end Go.Proofs.YtgbicnldbhfhiaaDoor
