import Derived.Test.YtfoplfpbjajljaaGreatDoorFwI
set_option linter.unusedVariables false
set_option linter.unusedSimpArgs false
namespace Go.Proofs.YtfoplfpbjajljaaGreatDoor
set_option maxRecDepth 100000
set_option maxHeartbeats 16000000
def extT (k m : Nat) (at_ : List Int) (i : Nat) : List (List Int) := (List.range i).flatMap fun i : Nat => if (i : Int) ∈ at_ then [] else xtL k (m - 1) (at_ ++ [(i : Int)])
theorem extT_zero (k m : Nat) (at_ : List Int) (l : List (List Int)) : l ++ extT k m at_ 0 = l := by simp [extT]
theorem extT_up (k m : Nat) (at_ : List Int) (i : Nat) : extT k m at_ (i + 1) = extT k m at_ i ++ if (i : Int) ∈ at_ then [] else xtL k (m - 1) (at_ ++ [(i : Int)]) := by
 unfold extT; rw [List.range_succ, List.flatMap_append]; simp
theorem sch_full {k : Nat} {l : List Int} (h : schB k l) (hl : k ≤ l.length) {i : Nat} (hi : i < k) : (i : Int) ∈ l := by
 refine Classical.byContradiction fun hn => ?_
 have h1 : ((i : Int) :: l).Nodup := List.nodup_cons.2 ⟨hn, sch_nodup h⟩
 have h2 := nodup_len (n := k) h1 fun x hx => by
  rcases List.mem_cons.1 hx with rfl | hx
  ·omega
  ·obtain ⟨j, hj, e⟩ := List.getElem_of_mem hx
   have := (h j hj).1
   rwa [getD_elem 0 hj, e] at this
 simp only [List.length_cons] at h2
 omega
theorem sch_snoc {k : Nat} {l : List Int} (h : schB k l) {i : Nat} (hi : i < k) (hn : (i : Int) ∉ l) : schB k (l ++ [(i : Int)]) := by
 intro j hj
 rw [List.length_append, List.length_singleton] at hj
 by_cases e : j < l.length
 ·have e1 : (l ++ [(i : Int)]).getD j 0 = l.getD j 0 := by
   rw [gD, List.getElem?_append_left e, ← gD]
  rw [e1, List.take_append_of_le_length (by omega)]
  exact h j e
 ·obtain rfl : j = l.length := by omega
  have e1 : (l ++ [(i : Int)]).getD l.length 0 = (i : Int) := by
   rw [gD, List.getElem?_append_right (Nat.le_refl _), Nat.sub_self]; rfl
  rw [e1, List.take_left']
  ·exact ⟨by omega, hn⟩
  ·rfl
theorem extL_eq {k m : Nat} {at_ : List Int} (h : schB k at_) (hm : k - at_.length ≤ m) : xtL k m at_ = at_ :: extT k m at_ k := by
 cases m with
 |zero =>
  rw [xtL]
  have : extT k 0 at_ k = [] := by
   unfold extT
   rw [List.flatMap_eq_nil_iff]
   intro i hi
   rw [if_pos (sch_full h (by omega) (List.mem_range.1 hi))]
  rw [this]
 |succ m => rfl
theorem xtL_len (k : Nat) : ∀ (m : Nat) (at_ : List Int), (xtL k m at_).length ≤ (k + 1) ^ m
 |0, at_ => by simp [xtL]
 |m + 1, at_ => by
  rw [xtL, List.length_cons]
  have hp : 1 ≤ (k + 1) ^ m := Nat.pow_pos (by omega)
  have := flat_le (fun i : Nat => if (i : Int) ∈ at_ then [] else xtL k m (at_ ++ [(i : Int)])) ((k + 1) ^ m) (List.range k) fun i _ => by
   split
   ·simp
   ·exact xtL_len k m _
  rw [List.length_range] at this
  rw [Nat.pow_succ, Nat.mul_add, Nat.mul_one]
  omega
def exR (k m : Nat) (at_ : List Int) (outs : List (List Int)) : AV → Mem → Prop := fun u M => u = .row 8001 (outs ++ xtL k m at_).length 1 ∧ M = Mem.ofL [(8000, .dead), (8001, rowL (outs ++ xtL k m at_))]
theorem extT_len (k m : Nat) (at_ : List Int) (i : Nat) : (extT k m at_ i).length ≤ i * (k + 1) ^ (m - 1) := by
 have := flat_le (fun i : Nat => if (i : Int) ∈ at_ then [] else xtL k (m - 1) (at_ ++ [(i : Int)])) ((k + 1) ^ (m - 1)) (List.range i) fun i _ => by
  split
  ·simp
  ·exact xtL_len k (m - 1) _
 rw [List.length_range, Nat.mul_comm] at this
 exact this
def exB (k m : Nat) : Prop := ∀ (at_ : List Int) (outs : List (List Int)), m ≤ 3 → schB k at_ → k - at_.length ≤ m → outs.length + (k + 1) ^ m ≤ 1000000 →
  Spec Tryz.prog 40 [.row 8000 outs.length 1, .sl 0 encI at_, .int .i64 (k : Int)] (Mem.ofL [(8000, rowL outs)]) (exR k m at_ outs)
theorem extendedS (k : Nat) (hk : k ≤ 3) (m : Nat) (ih : 0 < m → exB k (m - 1)) : exB k m := by
 intro at_ outs hm hs hl hb
 have hal := sch_len hs
 have eL := extL_eq hs hl
 have hp1 : 1 ≤ (k + 1) ^ m := Nat.pow_pos (by omega)
 refine Spec.renorm 400 (R := fun u M => ∃ ℓ, u = .row 1000 (outs ++ xtL k m at_).length 1 ∧ memR [(8000, .old 8000), (8001, .old ℓ)] 400 M [(8000, .dead), (8001, rowL (outs ++ xtL k m at_))] ∧ ℓ = 1000) ?_ ?_
 case refine_2 =>
  rintro u M ⟨ℓ, rfl, hM, rfl⟩
  exact ⟨[(8000, .old 8000), (8001, .old 1000)], _, .row 8001 (outs ++ xtL k m at_).length 1, rfl, hM, rfl, rfl, rfl⟩
 refine Spec.intro tt_ok mx_ok [(8000, rowL outs)] Tryz.func40 rfl (by decide) ?_
 conv => whnf
 refine bldI 0 encI [] rfl ?_
 conv => whnf
 refine appI _ rfl (by simp only [List.length_nil]; omega) ?_
 conv => whnf
 refine bldI [] encL [at_] rfl ?_
 conv => whnf
 refine appI [at_] rfl lI ?_
 conv => whnf
 refine WPc.loopF tt_ok mx_ok (fun i : Nat => i ≤ k) (fun i => [(9, .top), (10, .top), (12, .top), (13, .top), (14, .top), (7, .int .i64 (i : Int)), (0, .row 1000 (outs ++ [at_] ++ extT k m at_ i).length 1)]) (fun i => [(8000, .dead), (1000, rowL (outs ++ [at_] ++ extT k m at_ i))]) (fun i => k - i) 0 (Nat.zero_le _) ?_; conv => whnf
 refine ⟨by rw [extT_zero]; exact Sub.by_ [(8000, .old 8000), (1000, .old 14)] _ 400 rfl (auto_) (auto_), ?_⟩
 rintro i hi
 conv => whnf
 refine cmpI ?_ ?_ <;> (intro h1; conv => whnf)
 ·have hik : i < k := by omega
  have eu := extT_up k m at_ i
  refine dC (inR4 at_ (i : Int) (by omega)) (fun _ => ?_) (fun _ => ?_) <;> (conv => whnf)
  ·rename_i hm2
   rw [if_pos hm2, List.append_nil] at eu
   repeat' ((first|refine nI ?_|refine aI ?_|refine tI ?_|refine fI ?_|fail);conv => whnf)
   refine ⟨i + 1, ?_, by omega, by dsimp only; omega⟩
   dsimp only
   rw [eu]
   exact Sub.by_ [(8000, .old 8000), (1000, .old 1000)] _ 400 rfl (auto_) (auto_)
  ·rename_i hm2
   rw [if_neg hm2] at eu
   have hm0 : 0 < m := Nat.pos_of_ne_zero fun h0 => hm2 (sch_full hs (by omega) hik)
   refine bldI 0 encI [] rfl ?_
   conv => whnf
   refine appI _ rfl (by simp only [List.length_nil]; omega) ?_
   conv => whnf
   refine appI [(i : Int)] rfl (by simp only [List.nil_append, List.length_cons, List.length_nil]; omega) ?_
   conv => whnf
   have hx : (outs ++ [at_] ++ extT k m at_ i).length + (k + 1) ^ (m - 1) ≤ 1000000 := by
    have a := extT_len k m at_ i
    obtain ⟨n, rfl⟩ : ∃ n, m = n + 1 := ⟨m - 1, by omega⟩
    rw [Nat.add_sub_cancel] at a ⊢
    rw [Nat.pow_succ] at hb
    have b : (i + 1) * (k + 1) ^ n ≤ k * (k + 1) ^ n := Nat.mul_le_mul_right _ (by omega)
    have c : 1 ≤ (k + 1) ^ n := Nat.pow_pos (by omega)
    simp only [List.length_append, List.length_cons, List.length_nil]
    rw [Nat.add_mul, Nat.one_mul] at b
    rw [Nat.mul_add, Nat.mul_one, Nat.mul_comm _ k] at hb
    omega
   refine Spec.hand 30 rfl ?_
   refine Spec.call [(8000, .old 1000)] [(8000, rowL (outs ++ [at_] ++ extT k m at_ i))] 400 rfl (auto_) (auto_) (ih hm0 (at_ ++ [(i : Int)]) (outs ++ [at_] ++ extT k m at_ i) (by omega) (sch_snoc hs hik hm2) (by simp only [List.length_append, List.length_cons, List.length_nil]; omega) hx) ?_
   rintro u M' ⟨rfl, rfl⟩
   refine ⟨[(1000, .old 8000), (1001, .old 8001)], [(1000, .dead), (1001, rowL (outs ++ [at_] ++ extT k m at_ i ++ xtL k (m - 1) (at_ ++ [(i : Int)])))], .row 1001 (outs ++ [at_] ++ extT k m at_ i ++ xtL k (m - 1) (at_ ++ [(i : Int)])).length 1, rfl, (auto_), rfl, ?_⟩
   conv => whnf
   repeat' ((first|refine nI ?_|refine aI ?_|refine tI ?_|refine fI ?_|fail);conv => whnf)
   refine ⟨i + 1, ?_, by omega, by dsimp only; omega⟩
   dsimp only
   rw [eu, ← List.append_assoc]
   exact Sub.by_ [(8000, .old 8000), (1000, .old 1001)] _ 400 rfl (auto_) (auto_)
 ·obtain rfl : i = k := by omega
  have e : outs ++ xtL i m at_ = outs ++ [at_] ++ extT i m at_ i := by rw [eL, List.append_assoc]; rfl
  rw [e]
  exact ⟨1000, rfl, (auto_), rfl⟩
