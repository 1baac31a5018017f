
/-
  Exact pivoting: what stays true of a tableau, and that the divisions leave nothing over.
-/
import Derived.Test.YtgjmbmdaaahmkaaFvA
set_option linter.unusedVariables false
set_option linter.unusedSimpArgs false
namespace Go.Proofs.Ytgjmbmdaaahmkaa

/-- basic columns b, free columns f, cells c over a common denominator d -/
structure Tbl (m q : Nat) (b f : Cl) (c : Nat → Nat → Int) (d : Int) : Prop where
  rel : ∀ j, j < q → ∀ l, l < m → d * f j l = sumZ m fun k => (- c k j) * b k l
  det : d = detZ m b ∨ d = - detZ m b
  ne : d ≠ 0
section
variable {m q : Nat} {b f : Cl} {c : Nat → Nat → Int} {d : Int}

theorem sumZ_mul (n : Nat) (a : Int) (f : Nat → Int) : a * sumZ n f = sumZ n fun i => a * f i := by
  induction n with
  | zero => simp [sumZ]
  | succ n ih => rw [sumZ, sumZ, Int.mul_add, ih]
theorem sumZ_add (n : Nat) (f g : Nat → Int) : (sumZ n fun i => f i + g i) = sumZ n f + sumZ n g := by
  induction n with
  | zero => rfl
  | succ n ih => rw [sumZ, sumZ, sumZ, ih]; omega
theorem sumZ_sub (n : Nat) (f g : Nat → Int) : (sumZ n fun i => f i - g i) = sumZ n f - sumZ n g := by
  induction n with
  | zero => rfl
  | succ n ih => rw [sumZ, sumZ, sumZ, ih]; omega
theorem sumZ_swap (n m : Nat) (f : Nat → Nat → Int) : (sumZ n fun i => sumZ m fun j => f i j) = sumZ m fun j => sumZ n fun i => f i j := by
  induction n with
  | zero => rw [sumZ]; exact (sumZ_zero m _ fun _ _ => rfl).symm
  | succ n ih => rw [sumZ, ih, ← sumZ_add]; exact sumZ_congr fun j _ => rfl
/-- a column that is d times a free column, put into a place -/
theorem Tbl.put (h : Tbl m q b f c d) (C : Cl) {i j : Nat} (hi : i < m) (hj : j < q) : d * detZ m (updZ C i (f j)) = sumZ m fun k => (- c k j) * detZ m (updZ C i (b k)) := by
  rw [← det_sum hi (fun k => - c k j) m]
  have e : detZ m (updZ C i (fun l => sumZ m fun k => (- c k j) * b k l)) = detZ m (updZ C i (fun l => d * f j l + 0 * f j l)) := by
    refine det_ext m _ _ fun k l _ hl => ?_
    unfold updZ
    split
    · show (sumZ m fun k => (- c k j) * b k l) = d * f j l + 0 * f j l
      rw [Int.zero_mul, Int.add_zero]; exact (h.rel j hj l hl).symm
    · rfl
  rw [e, det_lin m C i (f j) (f j) d 0 hi]
  omega
/-- a free column put into the place of a basic one -/
theorem Tbl.swap (h : Tbl m q b f c d) {i j : Nat} (hi : i < m) (hj : j < q) : d * detZ m (updZ b i (f j)) = (- c i j) * detZ m b := by
  rw [h.put b hi hj, sumZ_one (r := i) hi]
  · congr 1
    refine det_ext m _ _ fun k l _ _ => ?_
    unfold updZ
    split
    · subst_vars; rfl
    · rfl
  · intro k hk hki
    rw [det_eq2 (r := i) (s := k) hi hk (fun e => hki e.symm) fun l => by rw [updZ_same, updZ_ne _ _ hki], Int.mul_zero]
theorem mul_cancel {a x y : Int} (h : a ≠ 0) (e : a * x = a * y) : x = y := Int.eq_of_mul_eq_mul_left h e
theorem Tbl.cell (h : Tbl m q b f c d) {i j : Nat} (hi : i < m) (hj : j < q) : (d = detZ m b → detZ m (updZ b i (f j)) = - c i j) ∧ (d = - detZ m b → detZ m (updZ b i (f j)) = c i j) := by
  have a := h.swap hi hj
  refine ⟨fun e => ?_, fun e => ?_⟩
  · rw [← e, Int.mul_comm (- c i j)] at a
    exact mul_cancel h.ne a
  · have e2 : detZ m b = - d := by omega
    rw [e2, Int.mul_comm (- c i j), Int.neg_mul_neg] at a
    exact mul_cancel h.ne a
/-- the division of a pivot leaves nothing over -/
theorem Tbl.exact (h : Tbl m q b f c d) {r s i j : Nat} (hr : r < m) (hs : s < q) (hi : i < m) (hj : j < q) (hir : i ≠ r) : ∃ e, c r s * c i j - c i s * c r j = d * e := by
  have hC : d * detZ m (updZ (updZ b r (f s)) i (f j)) = (- c i j) * detZ m (updZ b r (f s)) + (- c r j) * (- detZ m (updZ b i (f s))) := by
    rw [h.put (updZ b r (f s)) hi hj, sumZ_two (r := i) (s := r) hi hr hir]
    · congr 2
      · refine det_ext m _ _ fun k l _ _ => ?_
        unfold updZ
        split
        · subst_vars; rw [if_neg hir]
        · rfl
      · have e : detZ m (updZ (updZ b r (f s)) i (b r)) = detZ m (swpZ (updZ b i (f s)) r i) := by
          refine det_ext m _ _ fun k l _ _ => ?_
          unfold swpZ updZ
          by_cases h1 : k = i
          · subst h1; rw [if_pos rfl, if_pos rfl, if_neg (fun e => hir e.symm)]
          · rw [if_neg h1, if_neg h1]
            by_cases h2 : k = r
            · subst h2; rw [if_pos rfl, if_pos rfl, if_pos rfl]
            · rw [if_neg h2, if_neg h2, if_neg h1]
        rw [e, det_swap hr hi (fun e => hir e.symm)]
    · intro k hk h1 h2
      rw [det_eq2 (r := i) (s := k) hi hk (fun e => h1 e.symm) fun l => by rw [updZ_same, updZ_ne _ _ h1, updZ_ne _ _ h2], Int.mul_zero]
  generalize detZ m (updZ (updZ b r (f s)) i (f j)) = X at hC
  rcases h.det with e | e
  · rw [(h.cell hr hs).1 e, (h.cell hi hs).1 e] at hC
    refine ⟨X, ?_⟩
    rw [hC, Int.neg_mul_neg, Int.neg_neg, Int.mul_comm (c i j), Int.neg_mul, Int.mul_comm (c r j)]
    omega
  · rw [(h.cell hr hs).2 e, (h.cell hi hs).2 e] at hC
    refine ⟨- X, ?_⟩
    rw [Int.mul_neg, hC, Int.neg_mul_neg, Int.neg_mul, Int.mul_comm (c i j), Int.mul_comm (c r j)]
    omega
/-- the cells behind a pivot in row r and column s; e: the quotients -/
def pivC (c e : Nat → Nat → Int) (d : Int) (r s : Nat) : Nat → Nat → Int := fun i j => if i = r then (if j = s then d else - c r j) else if j = s then c i s else e i j
theorem Tbl.pivot (h : Tbl m q b f c d) {r s : Nat} (hr : r < m) (hs : s < q) (hp : c r s ≠ 0) {e : Nat → Nat → Int} (he : ∀ i j, i < m → j < q → i ≠ r → j ≠ s → c r s * c i j - c i s * c r j = d * e i j) :
    Tbl m q (updZ b r (f s)) (updZ f s (b r)) (pivC c e d r s) (c r s) := by
  -- sums over the rows, the pivot's row apart
  have split : ∀ g : Nat → Int, sumZ m g = (sumZ m fun k => if k = r then 0 else g k) + g r := by
    intro g
    have e1 : (sumZ m fun k => if k = r then g k else 0) = g r := by
      rw [sumZ_one (r := r) hr fun i _ hi => if_neg hi, if_pos rfl]
    rw [← e1, ← sumZ_add]
    refine sumZ_congr fun i _ => ?_
    split <;> omega
  have rest : ∀ (g1 g2 : Nat → Int), (∀ k, k < m → k ≠ r → g1 k = g2 k) → (sumZ m fun k => if k = r then 0 else g1 k) = sumZ m fun k => if k = r then 0 else g2 k := by
    intro g1 g2 hg
    refine sumZ_congr fun k hk => ?_
    split
    · rfl
    · rename_i hkr; exact hg k hk hkr
  refine ⟨fun j hj l hl => ?_, ?_, hp⟩
  · have hs' := h.rel s hs l hl
    rw [split] at hs'
    rw [split]
    by_cases hjs : j = s
    · subst hjs
      rw [updZ_same, updZ_same]
      have e1 := rest (fun k => - pivC c e d r j k j * updZ b r (f j) k l) (fun k => - c k j * b k l) (fun k hk hkr => by
        unfold pivC; rw [if_neg hkr, if_pos rfl, updZ_ne _ _ hkr])
      rw [e1]
      have e2 : pivC c e d r j r j = d := by unfold pivC; rw [if_pos rfl, if_pos rfl]
      rw [e2]
      generalize (sumZ m fun k => if k = r then 0 else - c k j * b k l) = A at hs'
      rw [Int.neg_mul] at hs' ⊢
      omega
    · rw [updZ_ne _ _ hjs, updZ_same]
      have hj' := h.rel j hj l hl
      rw [split] at hj'
      have e2 : pivC c e d r s r j = - c r j := by unfold pivC; rw [if_pos rfl, if_neg hjs]
      rw [e2, Int.neg_neg]
      -- d times both sides
      refine mul_cancel h.ne ?_
      have e1 : d * (sumZ m fun k => if k = r then 0 else - pivC c e d r s k j * updZ b r (f s) k l) = c r s * (sumZ m fun k => if k = r then 0 else - c k j * b k l) - c r j * (sumZ m fun k => if k = r then 0 else - c k s * b k l) := by
        rw [sumZ_mul, sumZ_mul, sumZ_mul, ← sumZ_sub]
        refine sumZ_congr fun k hk => ?_
        by_cases hkr : k = r
        · rw [if_pos hkr, if_pos hkr, if_pos hkr]; simp
        · rw [if_neg hkr, if_neg hkr, if_neg hkr]
          have : pivC c e d r s k j = e k j := by unfold pivC; rw [if_neg hkr, if_neg hjs]
          rw [this, updZ_ne _ _ hkr]
          have hx := he k j hk hj hkr hjs
          have e3 : d * (- e k j * b k l) = - ((d * e k j) * b k l) := by rw [Int.neg_mul, Int.mul_neg, Int.mul_assoc]
          rw [e3, ← hx, Int.sub_mul, Int.neg_mul, Int.mul_neg, Int.neg_mul, Int.mul_neg, Int.mul_assoc, Int.mul_assoc, Int.mul_left_comm (c k s), ← Int.mul_assoc (c r j)]
          rw [Int.mul_assoc (c r j)]
          omega
      rw [Int.mul_add, e1]
      generalize (sumZ m fun k => if k = r then 0 else - c k j * b k l) = A at hj' ⊢
      generalize (sumZ m fun k => if k = r then 0 else - c k s * b k l) = B at hs' ⊢
      have e4 : d * (c r s * f j l) = c r s * (A + - c r j * b r l) := by rw [← hj', Int.mul_left_comm]
      have e5 : d * (c r j * f s l) = c r j * (B + - c r s * b r l) := by rw [← hs', Int.mul_left_comm]
      rw [e4, e5, Int.mul_add, Int.mul_add, Int.neg_mul, Int.neg_mul, Int.mul_neg, Int.mul_neg, Int.mul_left_comm (c r s)]
      omega
  · rcases h.det with e0 | e0
    · right; rw [(h.cell hr hs).1 e0]; omega
    · left; rw [(h.cell hr hs).2 e0]
/-- what holds of the values of all variables holds of the tableau's rows -/
theorem Tbl.rows (h : Tbl m q b f c d) {zb zf : Nat → Int} (hz : ∀ l, l < m → (sumZ m fun k => zb k * b k l) + (sumZ q fun j => zf j * f j l) = 0) : ∀ k, k < m → d * zb k = sumZ q fun j => c k j * zf j := by
  intro r hr
  let t : Nat → Int := fun k => d * zb k - sumZ q fun j => c k j * zf j
  have h0 : ∀ l, l < m → (sumZ m fun k => t k * b k l) = 0 := by
    intro l hl
    have e1 : (sumZ m fun k => t k * b k l) = d * (sumZ m fun k => zb k * b k l) - sumZ m fun k => sumZ q fun j => c k j * zf j * b k l := by
      rw [sumZ_mul, ← sumZ_sub]
      refine sumZ_congr fun k _ => ?_
      show (d * zb k - sumZ q fun j => c k j * zf j) * b k l = _
      rw [Int.sub_mul, Int.mul_assoc, Int.mul_comm (sumZ q _), sumZ_mul]
      congr 1
      exact sumZ_congr fun j _ => Int.mul_comm _ _
    have e2 : d * (sumZ q fun j => zf j * f j l) = - sumZ m fun k => sumZ q fun j => c k j * zf j * b k l := by
      rw [sumZ_swap, sumZ_mul]
      have : (- sumZ q fun j => sumZ m fun k => c k j * zf j * b k l) = sumZ q fun j => - sumZ m fun k => c k j * zf j * b k l := by
        have := sumZ_mul q (-1) (fun j => sumZ m fun k => c k j * zf j * b k l)
        rw [Int.neg_mul, Int.one_mul] at this
        rw [this]
        exact sumZ_congr fun j _ => by rw [Int.neg_mul, Int.one_mul]
      rw [this]
      refine sumZ_congr fun j hj => ?_
      rw [Int.mul_left_comm, h.rel j hj l hl, sumZ_mul]
      have := sumZ_mul m (-1) (fun k => c k j * zf j * b k l)
      rw [Int.neg_mul, Int.one_mul] at this
      rw [this]
      refine sumZ_congr fun k _ => ?_
      show zf j * (-c k j * b k l) = -1 * (c k j * zf j * b k l)
      rw [Int.neg_mul, Int.neg_mul, Int.one_mul, Int.mul_neg, Int.mul_left_comm, Int.mul_assoc]
    have e3 : (sumZ m fun k => zb k * b k l) = - sumZ q fun j => zf j * f j l := by have := hz l hl; omega
    rw [e1, e3, Int.mul_neg, e2]
    omega
  have e : detZ m (updZ b r (fun l => sumZ m fun k => t k * b k l)) = t r * detZ m b := by
    rw [det_sum hr t m, sumZ_one (r := r) hr]
    · congr 1
      refine det_ext m _ _ fun k l _ _ => ?_
      unfold updZ
      split
      · subst_vars; rfl
      · rfl
    · intro k hk hkr
      rw [det_eq2 (r := r) (s := k) hr hk (fun e => hkr e.symm) fun l => by rw [updZ_same, updZ_ne _ _ hkr], Int.mul_zero]
  have e' : detZ m (updZ b r (fun l => sumZ m fun k => t k * b k l)) = 0 := by
    have : detZ m (updZ b r (fun l => sumZ m fun k => t k * b k l)) = detZ m (updZ b r (fun l => 0 * b r l + 0 * b r l)) := by
      refine det_ext m _ _ fun k l _ hl => ?_
      unfold updZ
      split
      · show (sumZ m fun k => t k * b k l) = 0 * b r l + 0 * b r l
        rw [h0 l hl]; simp
      · rfl
    rw [this, det_lin m b r _ _ 0 0 hr]
    simp
  have hn : detZ m b ≠ 0 := by have := h.ne; rcases h.det with e | e <;> omega
  have : t r = 0 := by
    rw [e'] at e
    rcases Int.mul_eq_zero.1 e.symm with h1 | h1
    · exact h1
    · exact absurd h1 hn
  show d * zb r = _
  have : d * zb r - (sumZ q fun j => c r j * zf j) = 0 := this
  omega
/-- values of the basic columns that divide, with the first free column at 1 and the others at 0 -/
theorem Tbl.point (h : Tbl m q b f c d) (hq : 0 < q) {zb : Nat → Int} (hz : ∀ k, k < m → d * zb k = c k 0) : ∀ l, l < m → (sumZ m fun k => zb k * b k l) + f 0 l = 0 := by
  intro l hl
  refine mul_cancel h.ne ?_
  rw [Int.mul_add, h.rel 0 hq l hl, sumZ_mul, ← sumZ_add, Int.mul_zero]
  refine sumZ_zero m _ fun k hk => ?_
  rw [← hz k hk, Int.neg_mul, Int.mul_assoc]
  omega
end
end Go.Proofs.Ytgjmbmdaaahmkaa
