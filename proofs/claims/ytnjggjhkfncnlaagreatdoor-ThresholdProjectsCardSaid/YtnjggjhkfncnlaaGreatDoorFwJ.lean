import Derived.Test.YtnjggjhkfncnlaaGreatDoorW0
set_option linter.unusedVariables false
set_option linter.unusedSimpArgs false
namespace Go.Proofs.YtnjggjhkfncnlaaGreatDoor
set_option maxRecDepth 100000
set_option maxHeartbeats 16000000
def extT (k m : Nat) (at_ : List Int) (i : Nat) : List (List Int):=(List.range i).flatMap fun i : Nat=>if (i : Int) ∈ at_ then [] else xtL k (m - 1) (at_ ++ [(i : Int)])
theorem extT_zero (k m : Nat) (at_ : List Int) (l : List (List Int)) : l ++ extT k m at_ 0 = l:=by simp [extT]
theorem extT_up (k m : Nat) (at_ : List Int) (i : Nat) : extT k m at_ (i + 1) = extT k m at_ i ++ if (i : Int) ∈ at_ then [] else xtL k (m - 1) (at_ ++ [(i : Int)]):=by
 unfold extT; rw [List.range_succ, List.flatMap_append]; simp
theorem sch_full {k : Nat} {l : List Int} (h : schB k l) (hl : k ≤ l.length) {i : Nat} (hi : i < k) : (i : Int) ∈ l:=by
 refine Classical.byContradiction fun hn=>?_
 have h1 : ((i : Int) :: l).Nodup:=List.nodup_cons.2 ⟨hn, sch_nodup h⟩
 have h2:=nodup_len (n:=k) h1 fun x hx=>by
  rcases List.mem_cons.1 hx with rfl | hx
  ·omega
  ·obtain ⟨j, hj, e⟩:=List.getElem_of_mem hx
   have:=(h j hj).1
   rwa [getD_elem 0 hj, e] at this
 simp only [List.length_cons] at h2
 omega
theorem sch_snoc {k : Nat} {l : List Int} (h : schB k l) {i : Nat} (hi : i < k) (hn : (i : Int) ∉ l) : schB k (l ++ [(i : Int)]):=by
 intro j hj
 rw [List.length_append, List.length_singleton] at hj
 by_cases e : j < l.length
 ·have e1 : (l ++ [(i : Int)]).getD j 0 = l.getD j 0:=by
   rw [gD, List.getElem?_append_left e, ← gD]
  rw [e1, List.take_append_of_le_length (by omega)]
  exact h j e
 ·obtain rfl : j = l.length:=by omega
  have e1 : (l ++ [(i : Int)]).getD l.length 0 = (i : Int):=by
   rw [gD, List.getElem?_append_right (Nat.le_refl _), Nat.sub_self]; rfl
  rw [e1, List.take_left']
  ·exact ⟨by omega, hn⟩
  ·rfl
theorem extL_eq {k m : Nat} {at_ : List Int} (h : schB k at_) (hm : k - at_.length ≤ m) : xtL k m at_ = at_ :: extT k m at_ k:=by
 cases m with
 |zero =>
  rw [xtL]
  have : extT k 0 at_ k = []:=by
   unfold extT
   rw [List.flatMap_eq_nil_iff]
   intro i hi
   rw [if_pos (sch_full h (by omega) (List.mem_range.1 hi))]
  rw [this]
 |succ m=>rfl
theorem xtL_len (k : Nat) : ∀ (m : Nat) (at_ : List Int), (xtL k m at_).length ≤ (k + 1) ^ m
 |0, at_=>by simp [xtL]
 |m + 1, at_=>by
  rw [xtL, List.length_cons]
  have hp : 1 ≤ (k + 1) ^ m:=Nat.pow_pos (by omega)
  have:=flat_le (fun i : Nat=>if (i : Int) ∈ at_ then [] else xtL k m (at_ ++ [(i : Int)])) ((k + 1) ^ m) (List.range k) fun i _=>by
   split
   ·simp
   ·exact xtL_len k m _
  rw [List.length_range] at this
  rw [Nat.pow_succ, Nat.mul_add, Nat.mul_one]
  omega
theorem extT_len (k m : Nat) (at_ : List Int) (i : Nat) : (extT k m at_ i).length ≤ i * (k + 1) ^ (m - 1):=by
 have:=flat_le (fun i : Nat=>if (i : Int) ∈ at_ then [] else xtL k (m - 1) (at_ ++ [(i : Int)])) ((k + 1) ^ (m - 1)) (List.range i) fun i _=>by
  split
  ·simp
  ·exact xtL_len k (m - 1) _
 rw [List.length_range, Nat.mul_comm] at this
 exact this
