
/-
  A list of numbers in order, and a list with a piece in order.
-/
import Derived.Test.YtcbckmnbdcjeeaaGreatDoorFpM
set_option linter.unusedVariables false
set_option linter.unusedSimpArgs false
namespace Go.Proofs.YtcbckmnbdcjeeaaGreatDoor

def srtI (l : List Int) : List Int := l.mergeSort fun x y => decide (x ≤ y)
theorem srtI_perm (l : List Int) : (srtI l).Perm l := List.mergeSort_perm _ _
theorem srtI_len (l : List Int) : (srtI l).length = l.length := (srtI_perm l).length_eq
theorem srtI_up (l : List Int) : (srtI l).Pairwise (· ≤ ·) := by
  have := List.pairwise_mergeSort (le := fun x y : Int => decide (x ≤ y)) (fun a b c h1 h2 => by simp at *; omega) (fun a b => by simp; omega) l
  exact this.imp (by simp)
theorem srtI_of {l m : List Int} (h : m.Perm l) (hm : m.Pairwise (· ≤ ·)) : m = srtI l := srt_unique (h.trans (srtI_perm l).symm) hm (srtI_up l)
theorem srtI_idem (l : List Int) : srtI (srtI l) = srtI l := (srtI_of (List.Perm.refl _) (srtI_up l)).symm
def srtAt (l : List Int) (lo n : Nat) : List Int := l.take lo ++ (srtI ((l.drop lo).take n) ++ l.drop (lo + n))
theorem srtAt_len {l : List Int} {lo n : Nat} (h : lo + n ≤ l.length) : (srtAt l lo n).length = l.length := by
  simp only [srtAt, List.length_append, srtI_len, List.length_take, List.length_drop]; omega

end Go.Proofs.YtcbckmnbdcjeeaaGreatDoor
