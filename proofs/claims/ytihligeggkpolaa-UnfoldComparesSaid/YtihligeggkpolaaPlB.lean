/-
  Shapes of trees, plainly: where the subtree of a node ends, and who is its parent.
-/
import Derived.Test.YtihligeggkpolaaSymA
namespace Go.Proofs.Ytihligeggkpolaa

/-- what is left of a list behind n subtrees in preorder -/
def skipN : Nat → List Int → Option (List Int)
  | 0, l => some l
  | _ + 1, [] => none
  | n + 1, x :: xs => if x = 0 then skipN n xs else if x = 2 then skipN (n + 2) xs else none

theorem skipN_zero (l : List Int) : skipN 0 l = some l := by cases l <;> rfl
theorem skipN_nil (n : Nat) : skipN (n + 1) [] = none := rfl
theorem skipN_cons (n : Nat) (x : Int) (xs : List Int) : skipN (n + 1) (x :: xs) = if x = 0 then skipN n xs else if x = 2 then skipN (n + 2) xs else none := rfl

theorem skipN_add : ∀ (l : List Int) (a b : Nat), skipN (a + b) l = (skipN a l).bind (skipN b)
  | l, 0, b => by rw [Nat.zero_add, skipN_zero]; rfl
  | [], a + 1, b => by rw [show a + 1 + b = (a + b) + 1 by omega, skipN_nil, skipN_nil]; rfl
  | x :: xs, a + 1, b => by
    rw [show a + 1 + b = (a + b) + 1 by omega, skipN_cons, skipN_cons]
    split
    · exact skipN_add xs a b
    · split
      · rw [show a + b + 2 = (a + 2) + b by omega]; exact skipN_add xs (a + 2) b
      · rfl

theorem skipN_drop : ∀ (l : List Int) (n : Nat) (r : List Int), skipN n l = some r → ∃ k, n ≤ k ∧ k ≤ l.length ∧ r = l.drop k
  | l, 0, r, h => by rw [skipN_zero] at h; cases h; exact ⟨0, by omega, by omega, by simp⟩
  | [], n + 1, r, h => by rw [skipN_nil] at h; cases h
  | x :: xs, n + 1, r, h => by
    rw [skipN_cons] at h
    split at h
    · obtain ⟨k, h1, h2, h3⟩ := skipN_drop xs n r h
      exact ⟨k + 1, by omega, by simp; omega, by simpa using h3⟩
    · split at h
      · obtain ⟨k, h1, h2, h3⟩ := skipN_drop xs (n + 2) r h
        exact ⟨k + 1, by omega, by simp; omega, by simpa using h3⟩
      · cases h

/-- where the subtree of node i ends; 0 if it does not -/
def endAt (l : List Int) (i : Nat) : Nat := match skipN 1 (l.drop i) with
  | some r => l.length - r.length
  | none => 0
theorem endAt_of {l r : List Int} {i : Nat} (h : skipN 1 (l.drop i) = some r) : i < endAt l i ∧ endAt l i ≤ l.length ∧ r = l.drop (endAt l i) := by
  obtain ⟨k, h1, h2, h3⟩ := skipN_drop _ _ _ h
  have e : endAt l i = l.length - r.length := by unfold endAt; rw [h]
  rw [List.drop_drop] at h3
  have hl : (l.drop i).length = l.length - i := List.length_drop
  have hr : r.length = l.length - (i + k) := by rw [h3, List.length_drop]
  have e2 : endAt l i = i + k := by omega
  exact ⟨by omega, by omega, by rw [e2, h3]⟩

theorem drop_cons {l : List Int} {i : Nat} (h : i < l.length) : l.drop i = l.getD i 0 :: l.drop (i + 1) := by
  rw [List.drop_eq_getElem_cons h, List.getD_eq_getElem?_getD, List.getElem?_eq_getElem h]
  rfl

/-- what lies within n subtrees has its own end there -/
theorem skipN_inner : ∀ (l : List Int) (n : Nat) (r : List Int) (k : Nat), skipN n l = some r → k + r.length < l.length → ∃ r', skipN 1 (l.drop k) = some r' ∧ r.length ≤ r'.length
  | l, 0, r, k, h, hk => by rw [skipN_zero] at h; cases h; omega
  | [], n + 1, r, k, h, hk => by rw [skipN_nil] at h; cases h
  | x :: xs, n + 1, r, 0, h, hk => by
    rw [show n + 1 = 1 + n by omega, skipN_add] at h
    obtain ⟨m, hm, hr⟩ := Option.bind_eq_some_iff.1 h
    obtain ⟨j, _, _, hj⟩ := skipN_drop _ _ _ hr
    exact ⟨m, hm, by rw [hj]; simp⟩
  | x :: xs, n + 1, r, k + 1, h, hk => by
    rw [skipN_cons] at h
    simp only [List.length_cons] at hk
    split at h
    · exact skipN_inner xs n r k h (by omega)
    · split at h
      · exact skipN_inner xs (n + 2) r k h (by omega)
      · cases h

/-- the list is a shape -/
def shp (l : List Int) : Prop := skipN 1 l = some []
instance (l : List Int) : Decidable (shp l) := inferInstanceAs (Decidable (skipN 1 l = some []))

theorem shp.at {l : List Int} (h : shp l) {i : Nat} (hi : i < l.length) : skipN 1 (l.drop i) = some (l.drop (endAt l i)) ∧ i < endAt l i ∧ endAt l i ≤ l.length := by
  obtain ⟨r, hr, _⟩ := skipN_inner l 1 [] i h (by simpa using hi)
  obtain ⟨h1, h2, h3⟩ := endAt_of hr
  exact ⟨by rw [hr, h3], h1, h2⟩
/-- an inner node: its two children -/
theorem shp.two {l : List Int} (h : shp l) {i : Nat} (hi : i < l.length) (h2 : l.getD i 0 = 2) : i + 1 < l.length ∧ i + 1 < endAt l (i + 1) ∧ endAt l (i + 1) < l.length ∧ endAt l (endAt l (i + 1)) = endAt l i ∧ endAt l (i + 1) < endAt l i := by
  obtain ⟨e, h3, h4⟩ := h.at hi
  rw [drop_cons hi, skipN_cons 0, h2] at e
  simp only [show (2:Int) ≠ 0 by decide, if_false, if_true] at e
  rw [show 0 + 2 = 1 + 1 from rfl, skipN_add _ 1 1] at e
  obtain ⟨m, hm, hr⟩ := Option.bind_eq_some_iff.1 e
  obtain ⟨k1, k2, k3⟩ := endAt_of hm
  have hne : endAt l (i + 1) < l.length := by
    by_cases hh : endAt l (i + 1) < l.length
    · exact hh
    · rw [List.drop_eq_nil_of_le (by omega)] at k3
      subst k3; rw [skipN_nil] at hr; cases hr
  rw [k3] at hr
  obtain ⟨j1, j2, j3⟩ := endAt_of hr
  have hlen := congrArg List.length j3
  simp only [List.length_drop] at hlen
  have : endAt l (endAt l (i + 1)) = endAt l i := by omega
  exact ⟨by omega, k1, hne, this, by omega⟩
theorem shp.zeroTwo {l : List Int} (h : shp l) {i : Nat} (hi : i < l.length) : l.getD i 0 = 0 ∨ l.getD i 0 = 2 := by
  obtain ⟨e, h3, h4⟩ := h.at hi
  rw [drop_cons hi, skipN_cons 0] at e
  split at e
  · exact .inl ‹_›
  · split at e
    · exact .inr ‹_›
    · cases e
/-- subtrees are nested -/
theorem shp.nest {l : List Int} (h : shp l) {i k : Nat} (hi : i ≤ k) (hk : k < endAt l i) (hil : i < l.length) : endAt l k ≤ endAt l i := by
  obtain ⟨e, h3, h4⟩ := h.at hil
  obtain ⟨r', hr', hle⟩ := skipN_inner _ 1 _ (k - i) e (by simp only [List.length_drop]; omega)
  rw [List.drop_drop, show i + (k - i) = k by omega] at hr'
  obtain ⟨j1, j2, j3⟩ := endAt_of hr'
  rw [j3] at hle
  simp only [List.length_drop] at hle
  omega

/-- k is the parent of j -/
def isPar (l : List Int) (j k : Nat) : Bool := decide (l.getD k 0 = 2) && (decide (k + 1 = j) || decide (endAt l (k + 1) = j))
/-- the last k below n that is the parent of j; -1 if there is none -/
def parN (l : List Int) (j : Nat) : Nat → Int
  | 0 => -1
  | n + 1 => if isPar l j n then (n : Int) else parN l j n
theorem parN_succ (l : List Int) (j n : Nat) : parN l j (n + 1) = if isPar l j n then (n : Int) else parN l j n := rfl
def firstT (l : List Int) (i : Nat) : Int := if l.getD i 0 = 2 then ((i + 1 : Nat) : Int) else -1
def secondT (l : List Int) (i : Nat) : Int := if l.getD i 0 = 2 then (endAt l (i + 1) : Int) else -1
def parentT (l : List Int) (i : Nat) : Int := parN l i i

theorem parN_cases (l : List Int) (j n : Nat) : parN l j n = -1 ∨ ∃ k, k < n ∧ parN l j n = k ∧ isPar l j k = true := by
  induction n with
  | zero => exact .inl rfl
  | succ n ih =>
    unfold parN
    split
    · exact .inr ⟨n, by omega, rfl, ‹_›⟩
    · rcases ih with h | ⟨k, h1, h2, h3⟩
      · exact .inl h
      · exact .inr ⟨k, by omega, h2, h3⟩
theorem parN_eq {l : List Int} {j n k : Nat} (hk : k < n) (h : isPar l j k = true) (hu : ∀ m, k < m → m < n → isPar l j m = false) : parN l j n = k := by
  induction n with
  | zero => omega
  | succ n ih =>
    unfold parN
    by_cases e : k = n
    · subst e; rw [if_pos h]
    · rw [if_neg (by rw [hu n (by omega) (by omega)]; simp)]
      exact ih (by omega) fun m h1 h2 => hu m h1 (by omega)
/-- nothing from n on is a parent of j: the search may go on -/
theorem parN_more {l : List Int} {j n m : Nat} (hnm : n ≤ m) (hu : ∀ k, n ≤ k → k < m → isPar l j k = false) : parN l j m = parN l j n := by
  induction m with
  | zero => rw [show n = 0 by omega]
  | succ m ih =>
    by_cases e : n = m + 1
    · rw [e]
    · rw [parN_succ, if_neg (by rw [hu m (by omega) (by omega)]; simp)]
      exact ih (by omega) fun k h1 h2 => hu k h1 (by omega)
theorem isPar_lt {l : List Int} (h : shp l) {j k : Nat} (hk : k < l.length) (hp : isPar l j k = true) : k < j ∧ j < l.length := by
  simp only [isPar, Bool.and_eq_true, Bool.or_eq_true, decide_eq_true_eq] at hp
  obtain ⟨h2, hp⟩ := hp
  obtain ⟨a, b, c, d, e⟩ := h.two hk h2
  omega
theorem parN_all {l : List Int} (h : shp l) {j : Nat} (hj : j < l.length) : parN l j l.length = parentT l j := by
  unfold parentT
  refine parN_more (by omega) fun k h1 h2 => ?_
  cases e : isPar l j k
  · rfl
  · have := isPar_lt h h2 e; omega

/-- a child's parent is the node -/
theorem parentT_first {l : List Int} (h : shp l) {i : Nat} (hi : i < l.length) (h2 : l.getD i 0 = 2) : parentT l (i + 1) = i := by
  unfold parentT
  exact parN_eq (by omega) (by simp [isPar, h2, -List.getD_eq_getElem?_getD]) fun m h1 h3 => by omega
theorem parentT_second {l : List Int} (h : shp l) {i : Nat} (hi : i < l.length) (h2 : l.getD i 0 = 2) : parentT l (endAt l (i + 1)) = i := by
  obtain ⟨a, b, c, d, e⟩ := h.two hi h2
  unfold parentT
  refine parN_eq (by omega) (by simp [isPar, h2, -List.getD_eq_getElem?_getD]) fun m h1 h3 => ?_
  cases hp : isPar l (endAt l (i + 1)) m
  · rfl
  · simp only [isPar, Bool.and_eq_true, Bool.or_eq_true, decide_eq_true_eq] at hp
    obtain ⟨hm2, hp⟩ := hp
    obtain ⟨a', b', c', d', e'⟩ := h.two (i := m) (by omega) hm2
    have := h.nest (i := i + 1) (k := m) (by omega) h3 (by omega)
    omega

end Go.Proofs.Ytihligeggkpolaa
