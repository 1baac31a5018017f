import Derived.Test.YtfoplfpbjajljaaGreatDoorG1
import Derived.Test.YtfoplfpbjajljaaGreatDoorF1
import Derived.Test.YtfoplfpbjajljaaGreatDoorG4
set_option linter.unusedVariables false
set_option linter.unusedSimpArgs false
namespace Go.Proofs.YtfoplfpbjajljaaGreatDoor
def skipN : Nat → List Int → Option (List Int)
 | 0, l => some l
 | _ + 1, [] => none
 | n + 1, x :: xs => if x = 0 then skipN n xs else if x = 2 then skipN (n + 2) xs else none
theorem skipN_zero (l : List Int) : skipN 0 l = some l := by cases l <;> rfl
theorem skipN_nil (n : Nat) : skipN (n + 1) [] = none := rfl
theorem skipN_cons (n : Nat) (x : Int) (xs : List Int) : skipN (n + 1) (x :: xs) = if x = 0 then skipN n xs else if x = 2 then skipN (n + 2) xs else none := rfl
theorem skipN_add : ∀ (l : List Int) (a b : Nat), skipN (a + b) l = (skipN a l).bind (skipN b)
 | l, 0, b => by rw [Nat.zero_add, skipN_zero]; rfl
 | [], a + 1, b => by rw [show a + 1 + b = (a + b) + 1 by omega, skipN_nil, skipN_nil]; rfl
 | x :: xs, a + 1, b => by
  rw [show a + 1 + b = (a + b) + 1 by omega, skipN_cons, skipN_cons]
  split
  ·exact skipN_add xs a b
  ·split
   ·rw [show a + b + 2 = (a + 2) + b by omega]; exact skipN_add xs (a + 2) b
   ·rfl
theorem skipN_drop : ∀ (l : List Int) (n : Nat) (r : List Int), skipN n l = some r → ∃ k, n ≤ k ∧ k ≤ l.length ∧ r = l.drop k
 | l, 0, r, h => by rw [skipN_zero] at h; cases h; exact ⟨0, by omega, by omega, by simp⟩
 | [], n + 1, r, h => by rw [skipN_nil] at h; cases h
 | x :: xs, n + 1, r, h => by
  rw [skipN_cons] at h
  split at h
  ·obtain ⟨k, h1, h2, h3⟩ := skipN_drop xs n r h
   exact ⟨k + 1, by omega, by simp; omega, by simpa using h3⟩
  ·split at h
   ·obtain ⟨k, h1, h2, h3⟩ := skipN_drop xs (n + 2) r h
    exact ⟨k + 1, by omega, by simp; omega, by simpa using h3⟩
   ·cases h
def endAt (l : List Int) (i : Nat) : Nat := match skipN 1 (l.drop i) with
 | some r => l.length - r.length
 | none => 0
theorem endAt_of {l r : List Int} {i : Nat} (h : skipN 1 (l.drop i) = some r) : i < endAt l i ∧ endAt l i ≤ l.length ∧ r = l.drop (endAt l i) := by
 obtain ⟨k, h1, h2, h3⟩ := skipN_drop _ _ _ h
 have e : endAt l i = l.length - r.length := by unfold endAt; rw [h]
 rw [List.drop_drop] at h3
 have hl : (l.drop i).length = l.length - i := List.length_drop
 have hr : r.length = l.length - (i + k) := by rw [h3, List.length_drop]
 have e2 : endAt l i = i + k := by omega
 exact ⟨by omega, by omega, by rw [e2, h3]⟩
theorem drop_cons {l : List Int} {i : Nat} (h : i < l.length) : l.drop i = l.getD i 0 :: l.drop (i + 1) := by
 rw [List.drop_eq_getElem_cons h, gD, gL h]
 rfl
theorem skipN_inner : ∀ (l : List Int) (n : Nat) (r : List Int) (k : Nat), skipN n l = some r → k + r.length < l.length → ∃ r', skipN 1 (l.drop k) = some r' ∧ r.length ≤ r'.length
 | l, 0, r, k, h, hk => by rw [skipN_zero] at h; cases h; omega
 | [], n + 1, r, k, h, hk => by rw [skipN_nil] at h; cases h
 | x :: xs, n + 1, r, 0, h, hk => by
  rw [show n + 1 = 1 + n by omega, skipN_add] at h
  obtain ⟨m, hm, hr⟩ := Option.bind_eq_some_iff.1 h
  obtain ⟨j, _, _, hj⟩ := skipN_drop _ _ _ hr
  exact ⟨m, hm, by rw [hj]; simp⟩
 | x :: xs, n + 1, r, k + 1, h, hk => by
  rw [skipN_cons] at h
  simp only [List.length_cons] at hk
  split at h
  ·exact skipN_inner xs n r k h (by omega)
  ·split at h
   ·exact skipN_inner xs (n + 2) r k h (by omega)
   ·cases h
def shp (l : List Int) : Prop := skipN 1 l = some []
instance (l : List Int) : Decidable (shp l) := inferInstanceAs (Decidable (skipN 1 l = some []))
theorem shp.at {l : List Int} (h : shp l) {i : Nat} (hi : i < l.length) : skipN 1 (l.drop i) = some (l.drop (endAt l i)) ∧ i < endAt l i ∧ endAt l i ≤ l.length := by
 obtain ⟨r, hr, _⟩ := skipN_inner l 1 [] i h (by simpa using hi)
 obtain ⟨h1, h2, h3⟩ := endAt_of hr
 exact ⟨by rw [hr, h3], h1, h2⟩
theorem shp.two {l : List Int} (h : shp l) {i : Nat} (hi : i < l.length) (h2 : l.getD i 0 = 2) : i + 1 < l.length ∧ i + 1 < endAt l (i + 1) ∧ endAt l (i + 1) < l.length ∧ endAt l (endAt l (i + 1)) = endAt l i ∧ endAt l (i + 1) < endAt l i := by
 obtain ⟨e, h3, h4⟩ := h.at hi
 rw [drop_cons hi, skipN_cons 0, h2] at e
 simp only [show (2:Int) ≠ 0 by decide, if_false, if_true] at e
 rw [show 0 + 2 = 1 + 1 from rfl, skipN_add _ 1 1] at e
 obtain ⟨m, hm, hr⟩ := Option.bind_eq_some_iff.1 e
 obtain ⟨k1, k2, k3⟩ := endAt_of hm
 have hne : endAt l (i + 1) < l.length := by
  by_cases hh : endAt l (i + 1) < l.length
  ·exact hh
  ·rw [List.drop_eq_nil_of_le (by omega)] at k3
   subst k3; rw [skipN_nil] at hr; cases hr
 rw [k3] at hr
 obtain ⟨j1, j2, j3⟩ := endAt_of hr
 have hlen := congrArg List.length j3
 simp only [List.length_drop] at hlen
 have : endAt l (endAt l (i + 1)) = endAt l i := by omega
 exact ⟨by omega, k1, hne, this, by omega⟩
def isPar (l : List Int) (j k : Nat) : Bool := decide (l.getD k 0 = 2) && (decide (k + 1 = j) || decide (endAt l (k + 1) = j))
def parN (l : List Int) (j : Nat) : Nat → Int
 | 0 => -1
 | n + 1 => if isPar l j n then (n : Int) else parN l j n
def firstT (l : List Int) (i : Nat) : Int := if l.getD i 0 = 2 then ((i + 1 : Nat) : Int) else -1
def secondT (l : List Int) (i : Nat) : Int := if l.getD i 0 = 2 then (endAt l (i + 1) : Int) else -1
def parentT (l : List Int) (i : Nat) : Int := parN l i i
set_option maxRecDepth 100000
def rowN (l : List Int) : Blk := .row 3 0 encI l
set_option maxRecDepth 100000
instance (l : List Int) : Decidable (shp l) := inferInstanceAs (Decidable (skipN 1 l = some []))
def lkB (t : Int) (l : List Int) (n : Nat) : Bool := decide (t = 4 → shp l ∧ l.length = n)
def nbF (t : Int) (l : List Int) (n i : Nat) : Int := if t = 2 then (i : Int) - 1 else if t = 3 then (if i = 0 then (n : Int) - 1 else (i : Int) - 1) else if t = 4 ∧ lkB t l n = true then firstT l i else -1
def nbS (t : Int) (l : List Int) (n i : Nat) : Int := if t = 2 then (if i + 1 = n then -1 else (i : Int) + 1) else if t = 3 then (if i + 1 = n then 0 else (i : Int) + 1) else if t = 4 ∧ lkB t l n = true then secondT l i else -1
def nbP (t : Int) (l : List Int) (n i : Nat) : Int := if t = 4 ∧ lkB t l n = true then parentT l i else -1
set_option maxRecDepth 100000
set_option maxRecDepth 100000
structure Cfg where
 shape : List Int
 states : List Int
 correct : Int
 sent : List Int
 faulty : List Int
 value : Int
def wideB (c : Cfg) : Bool := decide (100 < c.shape.length) || decide (100 < c.states.length) || decide (100 < c.sent.length) || decide (100 < c.faulty.length)
def orL : List Int → Int
 | [] => 0
 | x :: l => if x ≠ 0 then x else orL l
theorem orL_drop {l : List Int} {k : Nat} (h : k < l.length) : orL (l.drop k) = if l.getD k 0 ≠ 0 then l.getD k 0 else orL (l.drop (k + 1)) := by
 rw [drop_cons h]; rfl
theorem cmpL_neg (a b : List Int) : cmpL b a = - cmpL a b := by
 induction a generalizing b with
 | nil => cases b <;> rfl
 | cons x xs ih =>
  cases b with
  | nil => rfl
  | cons y ys =>
   simp only [cmpL]
   by_cases h1 : x < y
   ·rw [if_neg (by omega), if_pos h1, if_pos h1]; rfl
   ·by_cases h2 : y < x
    ·rw [if_pos h2, if_neg h1, if_pos h2]
    ·rw [if_neg h2, if_neg h1, if_neg h1, if_neg h2, ih]
def Tri (x y z : Int) : Prop := (x ≤ 0 → y ≤ 0 → z ≤ 0) ∧ (x = 0 → y = 0 → z = 0) ∧ (x < 0 → y ≤ 0 → z < 0) ∧ (x ≤ 0 → y < 0 → z < 0)
theorem Tri.or {x y z : Int} {xs ys zs : List Int} (h : Tri x y z) (h' : Tri (orL xs) (orL ys) (orL zs)) : Tri (orL (x :: xs)) (orL (y :: ys)) (orL (z :: zs)) := by
 obtain ⟨a1, a2, a3, a4⟩ := h
 obtain ⟨b1, b2, b3, b4⟩ := h'
 simp only [orL]
 refine ⟨?_, ?_, ?_, ?_⟩ <;> (repeat' split) <;> omega
theorem Tri.z (a b c : Int) : Tri (cmpZ a b) (cmpZ b c) (cmpZ a c) := by
 unfold Tri cmpZ
 refine ⟨?_, ?_, ?_, ?_⟩ <;> (repeat' split) <;> omega
theorem Tri.l (a b c : List Int) : Tri (cmpL a b) (cmpL b c) (cmpL a c) := by
 have tr := cmpL_ord.trans a b c
 have e1 : cmpL a b = 0 → cmpL a c = cmpL b c := fun h => by rw [cmpL_eq h]
 have e2 : cmpL b c = 0 → cmpL a c = cmpL a b := fun h => by rw [cmpL_eq h]
 have e3 : cmpL a c = 0 → cmpL b c = - cmpL a b := fun h => by rw [cmpL_eq h, ← cmpL_neg]
 refine ⟨tr, ?_, ?_, ?_⟩ <;> omega
end Go.Proofs.YtfoplfpbjajljaaGreatDoor
