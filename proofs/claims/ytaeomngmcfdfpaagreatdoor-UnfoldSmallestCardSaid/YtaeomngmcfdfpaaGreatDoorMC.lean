import Derived.Test.YtaeomngmcfdfpaaGreatDoorF2
set_option linter.unusedVariables false
set_option linter.unusedSimpArgs false
namespace Go.Proofs.YtaeomngmcfdfpaaGreatDoor
theorem srt_unique : ∀ {l m : List Int}, l.Perm m → l.Pairwise (· ≤ ·) → m.Pairwise (· ≤ ·) → l = m := by
 intro l m h hl hm
 exact h.eq_of_pairwise (fun a b _ _ h1 h2 => Int.le_antisymm h1 h2) hl hm
def insStep (l : List Int) (k : Nat) : List Int := (l.set (k - 1) (l.getD k 0)).set k (l.getD (k - 1) 0)
theorem insStep_get {l : List Int} {k : Nat} (hk : 0 < k) (hl : k < l.length) (j : Nat) : (insStep l k).getD j 0 = if j = k then l.getD (k - 1) 0 else if j = k - 1 then l.getD k 0 else l.getD j 0 := by
 unfold insStep
 rw [getD_set, getD_set, List.length_set]
 by_cases h1 : j = k
 ·rw [if_pos ⟨h1.symm, hl⟩, if_pos h1]
 ·rw [if_neg (fun h => h1 h.1.symm), if_neg h1]
  by_cases h2 : j = k - 1
  ·rw [if_pos ⟨h2.symm, by omega⟩, if_pos h2]
  ·rw [if_neg (fun h => h2 h.1.symm), if_neg h2]
theorem insStep_perm {l : List Int} {k : Nat} (hk : 0 < k) (hl : k < l.length) : (insStep l k).Perm l := by
 have e1 : l.getD k 0 = l[k] := by rw [gD, gL hl]; rfl
 have e2 : l.getD (k - 1) 0 = l[k - 1] := by rw [gD, gL (by omega)]; rfl
 unfold insStep
 rw [e1, e2]
 exact List.set_set_perm (by omega) hl
structure InsInv (l : List Int) (i k : Nat) : Prop where
 low : ∀ a b, a < b → b ≤ i → b ≠ k → a ≠ k → l.getD a 0 ≤ l.getD b 0
 high : ∀ b, k < b → b ≤ i → l.getD k 0 ≤ l.getD b 0
theorem InsInv.start {l : List Int} {i : Nat} (h : ∀ a b, a < b → b < i → l.getD a 0 ≤ l.getD b 0) : InsInv l i i :=
 ⟨fun a b h1 h2 h3 _ => h a b h1 (by omega), fun b h1 h2 => by omega⟩
theorem InsInv.step {l : List Int} {i k : Nat} (h : InsInv l i k) (hk : 0 < k) (hi : k ≤ i) (hl : i < l.length) (hg : l.getD k 0 < l.getD (k - 1) 0) : InsInv (insStep l k) i (k - 1) := by
 have hget := fun j => insStep_get (l := l) hk (show k < l.length by omega) j
 refine ⟨fun a b h1 h2 h3 h4 => ?_, fun b h1 h2 => ?_⟩
 ·rw [hget a, hget b]
  by_cases ea : a = k
  ·subst ea
   rw [if_pos rfl, if_neg (by omega), if_neg (by omega)]
   exact h.low (a - 1) b (by omega) h2 (by omega) (by omega)
  ·rw [if_neg ea, if_neg h4]
   by_cases eb : b = k
   ·subst eb
    rw [if_pos rfl]
    by_cases e : a = b - 1
    ·exact absurd e h4
    ·exact h.low a (b - 1) (by omega) (by omega) (by omega) ea
   ·rw [if_neg eb, if_neg h3]
    exact h.low a b h1 h2 eb ea
 ·rw [hget (k - 1), if_neg (by omega), if_pos rfl, hget b]
  by_cases eb : b = k
  ·subst eb; rw [if_pos rfl]; omega
  ·rw [if_neg eb, if_neg (by omega)]
   exact h.high b (by omega) h2
theorem InsInv.stop {l : List Int} {i k : Nat} (h : InsInv l i k) (hi : k ≤ i) (hg : k = 0 ∨ l.getD (k - 1) 0 ≤ l.getD k 0) : ∀ a b, a < b → b < i + 1 → l.getD a 0 ≤ l.getD b 0 := by
 intro a b h1 h2
 by_cases eb : b = k
 ·subst eb
  by_cases ea : a = b - 1
  ·subst ea; omega
  ·have := h.low a (b - 1) (by omega) (by omega) (by omega) (by omega)
   omega
 ·by_cases ea : a = k
  ·subst ea; exact h.high b h1 (by omega)
  ·exact h.low a b h1 (by omega) eb ea
def srtI (l : List Int) : List Int := l.mergeSort fun x y => decide (x ≤ y)
theorem srtI_perm (l : List Int) : (srtI l).Perm l := List.mergeSort_perm _ _
theorem srtI_len (l : List Int) : (srtI l).length = l.length := (srtI_perm l).length_eq
theorem srtI_up (l : List Int) : (srtI l).Pairwise (· ≤ ·) := by
 have := List.pairwise_mergeSort (le := fun x y : Int => decide (x ≤ y)) (fun a b c h1 h2 => by simp at *; omega) (fun a b => by simp; omega) l
 exact this.imp (by simp)
theorem srtI_of {l m : List Int} (h : m.Perm l) (hm : m.Pairwise (· ≤ ·)) : m = srtI l := srt_unique (h.trans (srtI_perm l).symm) hm (srtI_up l)
def srtAt (l : List Int) (lo n : Nat) : List Int := l.take lo ++ (srtI ((l.drop lo).take n) ++ l.drop (lo + n))
theorem srtAt_len {l : List Int} {lo n : Nat} (h : lo + n ≤ l.length) : (srtAt l lo n).length = l.length := by
 simp only [srtAt, List.length_append, srtI_len, List.length_take, List.length_drop]; omega
end Go.Proofs.YtaeomngmcfdfpaaGreatDoor
