
/-
  The error of a rule: what the document's answer computes is the same.
-/
import Derived.Test.YtgbicnldbhfhiaaDoorFnS
set_option linter.unusedVariables false
set_option linter.unusedSimpArgs false
namespace Go.Proofs.YtgbicnldbhfhiaaDoor
set_option maxRecDepth 100000
set_option maxHeartbeats 8000000

theorem orL_z {a : Int} {l : List Int} (h : a = 0) : orL (a :: l) = orL l := by rw [orL, if_neg (by omega)]
theorem orL_5 {a : Int} {l : List Int} (h : a = 5) : orL (a :: l) = 5 := by rw [orL, if_pos (by omega), h]
theorem orL_nz {a : Int} {l : List Int} (h : a ≠ 0) : orL (a :: l) = a := by rw [orL, if_pos h]
theorem indE_in {i n : Int} (h : 0 ≤ i ∧ i ≤ n - 1) : indE i n = 0 := by rw [indE, if_neg (by omega)]
theorem indE_out {i n : Int} (h : ¬ (0 ≤ i ∧ i ≤ n - 1)) : indE i n = 5 := by rw [indE, if_pos (by omega)]
theorem setE_nil (n : Int) : setE [] n = 0 := by
  have h1 : inR [] n := fun j hj => by simp at hj
  have h2 : incr [] := fun j hj => by simp at hj
  rw [setE, if_pos h1, if_pos h2]
theorem len0 {α : Type} {l : List α} (h : ¬ 0 < l.length) : l = [] := List.eq_nil_of_length_eq_zero (by omega)
def refL (p : Pro) (r : Rul) : List Int :=
  [indE r.src p.states.length, indE r.dst p.states.length, (if r.kind = 2 ∨ r.kind = 5 then indE r.pfrom p.states.length else 0), (if r.kind = 2 ∨ r.kind = 5 then indE r.pto p.states.length else 0), (if r.kind = 3 then respE r.response p.states.length else 0),
   guardsE p.messages.length r.guards, setE r.some_ p.states.length, setE r.forall_ p.states.length, valE p.values.length r.read, valE p.values.length r.write, setE r.send p.messages.length,
   setE r.left p.states.length, setE r.right p.states.length, setE r.parent p.states.length, (if r.kind = 4 then atE r.at_ p.topology else 0), (if r.kind = 5 then dirE r.direction p.topology else 0)]
theorem orL_app2 (l m : List Int) : orL (l ++ m) = if orL l ≠ 0 then orL l else orL m := by
  induction l with
  | nil => simp [orL]
  | cons a l ih =>
    simp only [List.cons_append, orL]
    by_cases h : a = 0
    · simp [h, ih]
    · simp [h]
theorem orL_flat (a b : Int) (l : List Int) : orL [a, b, orL l] = orL (a :: b :: l) := by
  simp only [orL]
  by_cases h : orL l = 0 <;> simp [h]
theorem refL_eq {p : Pro} {r : Rul} (hf : fitB r.kind p.topology) (hs : ¬ surB r p.topology) : orL (refL p r) = orL [indE r.src p.states.length, indE r.dst p.states.length, kindE p r] := by
  unfold fitB at hf
  unfold surB at hs
  have hg0 : guardsE p.messages.length [] = 0 := by simp [guardsE, orL]
  have hv0 : valE p.values.length (-1) = 0 := by rw [valE, if_neg (by omega)]
  have hk : r.kind = 1 ∨ r.kind = 2 ∨ r.kind = 3 ∨ r.kind = 4 ∨ r.kind = 5 := by omega
  rcases hk with k | k | k | k | k
  · have a1 : r.left = [] := len0 (by omega)
    have a2 : r.right = [] := len0 (by omega)
    have a3 : r.parent = [] := len0 (by omega)
    rw [kindE, if_pos k, orL_flat, refL]
    simp only [k, a1, a2, a3, setE_nil]
    simp [orL]
  · have a1 : r.left = [] := len0 (by omega)
    have a2 : r.right = [] := len0 (by omega)
    have a3 : r.parent = [] := len0 (by omega)
    have a4 : r.guards = [] := len0 (by omega)
    have a5 : r.some_ = [] := len0 (by omega)
    have a6 : r.forall_ = [] := len0 (by omega)
    have a7 : r.send = [] := len0 (by omega)
    rw [kindE, if_neg (by omega), if_pos k, orL_flat, refL]
    simp only [k, a1, a2, a3, a4, a5, a6, a7, setE_nil, hg0]
    simp [orL]
  · have a1 : r.left = [] := len0 (by omega)
    have a2 : r.right = [] := len0 (by omega)
    have a3 : r.parent = [] := len0 (by omega)
    have a4 : r.guards = [] := len0 (by omega)
    have a5 : r.some_ = [] := len0 (by omega)
    have a6 : r.forall_ = [] := len0 (by omega)
    have a7 : r.send = [] := len0 (by omega)
    rw [kindE, if_neg (by omega), if_neg (by omega), if_pos k, orL_flat, refL]
    simp only [k, a1, a2, a3, a4, a5, a6, a7, setE_nil, hg0]
    simp [orL]
  · have a4 : r.guards = [] := len0 (by omega)
    have a5 : r.some_ = [] := len0 (by omega)
    have a6 : r.forall_ = [] := len0 (by omega)
    have a7 : r.send = [] := len0 (by omega)
    have a8 : r.read = -1 := by omega
    have a9 : r.write = -1 := by omega
    rw [kindE, if_neg (by omega), if_neg (by omega), if_neg (by omega), if_pos k, orL_flat, refL]
    simp only [k, a4, a5, a6, a7, a8, a9, setE_nil, hg0, hv0]
    simp [orL]
  · have a1 : r.left = [] := len0 (by omega)
    have a2 : r.right = [] := len0 (by omega)
    have a3 : r.parent = [] := len0 (by omega)
    have a4 : r.guards = [] := len0 (by omega)
    have a5 : r.some_ = [] := len0 (by omega)
    have a6 : r.forall_ = [] := len0 (by omega)
    have a7 : r.send = [] := len0 (by omega)
    have a8 : r.read = -1 := by omega
    have a9 : r.write = -1 := by omega
    rw [kindE, if_neg (by omega), if_neg (by omega), if_neg (by omega), if_neg (by omega), orL_flat, refL]
    simp only [k, a1, a2, a3, a4, a5, a6, a7, a8, a9, setE_nil, hg0, hv0]
    simp [orL]

theorem taken_iff {rs : List Rul} {i : Nat} {r : Rul} (hi : i ≤ rs.length) : takenB rs i r ↔ ∃ j, j < i ∧ (rs.getD j rul0).name = r.name := by
  have e : ∀ j, j < i → (rs.take i).getD j rul0 = rs.getD j rul0 := fun j hj => by
    rw [List.getD_eq_getElem?_getD, List.getElem?_take, if_pos hj, ← List.getD_eq_getElem?_getD]
  have hl : (rs.take i).length = i := by simp; omega
  unfold takenB
  rw [hl]
  constructor
  · rintro ⟨j, h1, h2⟩; exact ⟨j, h1, by rw [← e j h1]; exact h2⟩
  · rintro ⟨j, h1, h2⟩; exact ⟨j, h1, by rw [e j h1]; exact h2⟩
theorem gE_of {m : Int} {g : Thr} (h1 : 0 ≤ g.message ∧ g.message ≤ m - 1) (h2 : 1 ≤ g.coef ∧ g.coef ≤ 100) (h3 : bndB g.bound) : gE m g = 0 := by
  rw [gE, orL_z (indE_in h1), orL_z (by rw [coefE, if_neg (by omega)]), orL_z (by rw [bndE, if_pos h3])]; rfl
theorem val_cases (m v : Int) (hm : 0 ≤ m) : (v = -1 ∧ valE m v = 0) ∨ (v ≠ -1 ∧ (0 ≤ v ∧ v ≤ m - 1) ∧ valE m v = 0) ∨ (v ≠ -1 ∧ ¬ (0 ≤ v ∧ v ≤ m - 1) ∧ valE m v = 5) := by
  unfold valE
  by_cases h1 : v = -1
  · left; exact ⟨h1, if_neg (by omega)⟩
  · by_cases h2 : 0 ≤ v ∧ v ≤ m - 1
    · right; left; exact ⟨h1, h2, if_neg (by omega)⟩
    · right; right; exact ⟨h1, h2, if_pos (by omega)⟩
end Go.Proofs.YtgbicnldbhfhiaaDoor
