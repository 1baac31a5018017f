
/-
  Counting through the points of a box.
-/
import Derived.Test.YtgjmbmdaaahmkaaFuA
set_option linter.unusedVariables false
set_option linter.unusedSimpArgs false
namespace Go.Proofs.Ytgjmbmdaaahmkaa
set_option maxRecDepth 100000

/-- the number of a point, its coordinates being the digits -/
def odo (b : Int) : List Int → Int
  | [] => 0
  | x :: l => x * (b + 1) ^ l.length + odo b l
theorem odo_app (b : Int) (l m : List Int) : odo b (l ++ m) = odo b l * (b + 1) ^ m.length + odo b m := by
  induction l with
  | nil => simp [odo]
  | cons x l ih =>
    rw [List.cons_append, odo, odo, ih, List.length_append, Int.pow_add, Int.add_mul, Int.mul_assoc]
    omega
theorem odo_top (b : Int) (k : Nat) : odo b (List.replicate k b) = (b + 1) ^ k - 1 := by
  induction k with
  | zero => simp [odo]
  | succ k ih =>
    rw [List.replicate_succ, odo, ih, List.length_replicate, Int.pow_succ, Int.mul_comm ((b + 1) ^ k), Int.add_mul, Int.one_mul]
    omega
theorem odo_zero (b : Int) (k : Nat) : odo b (List.replicate k 0) = 0 := by
  induction k with
  | zero => simp [odo]
  | succ k ih => rw [List.replicate_succ, odo, ih, Int.zero_mul]; rfl
theorem odo_step (b x : Int) (l : List Int) (k : Nat) : odo b (l ++ (x + 1) :: List.replicate k 0) = odo b (l ++ x :: List.replicate k b) + 1 := by
  rw [odo_app, odo_app, odo, odo, odo_zero, odo_top]
  simp only [List.length_cons, List.length_replicate]
  rw [Int.add_mul x 1, Int.one_mul]
  omega
theorem odo_rng {b : Int} (hb : 0 ≤ b) : ∀ {l : List Int}, (∀ x ∈ l, 0 ≤ x ∧ x ≤ b) → 0 ≤ odo b l ∧ odo b l < (b + 1) ^ l.length
  | [], _ => by simp [odo]
  | x :: l, h => by
    obtain ⟨h1, h2⟩ := odo_rng hb (l := l) fun y hy => h y (List.mem_cons_of_mem _ hy)
    obtain ⟨k1, k2⟩ := h x List.mem_cons_self
    rw [odo, List.length_cons, Int.pow_succ, Int.mul_add, Int.mul_one]
    have hp : 0 ≤ (b + 1) ^ l.length := Int.pow_nonneg (by omega)
    have a1 := Int.mul_nonneg k1 hp
    have a2 := Int.mul_le_mul_of_nonneg_right k2 hp
    rw [Int.mul_comm _ b]
    omega
end Go.Proofs.Ytgjmbmdaaahmkaa
