/-
  Neighbors of one process, and that neighbors are mutual.
-/
import Derived.Test.YtihligeggkpolaaFnK
namespace Go.Proofs.Ytihligeggkpolaa
set_option maxRecDepth 100000

def nbr (t : Int) (l : List Int) (n i : Int) : Int × Int × Int :=
  if i < 0 ∨ n ≤ i then (-1, -1, -1) else if t = 2 then (i - 1, (if i + 1 = n then -1 else i + 1), -1)
  else if t = 3 then ((if i - 1 < 0 then n - 1 else i - 1), (if i + 1 = n then 0 else i + 1), -1)
  else if t = 4 ∧ (l.length : Int) = n ∧ shp l then (firstT l i.toNat, secondT l i.toNat, parentT l i.toNat) else (-1, -1, -1)
def nbrA (x : Int × Int × Int) : AV := .tup [.int .i64 x.1, .int .i64 x.2.1, .int .i64 x.2.2]
theorem nbrA_eq {a b c : Int} {x : Int × Int × Int} (h : x = (a, b, c)) : AV.tup [.int .i64 a, .int .i64 b, .int .i64 c] = nbrA x := by rw [h]; rfl

theorem neighborsF (t : Int) (l : List Int) (n i : Int) (hl : l.length ≤ 1000) (hn : n ≤ 9223372036854775807) : PSpec Try.prog 13 [.int .i64 t, .sl 0 encI l, .int .i64 n, .int .i64 i] (fun u => u = nbrA (nbr t l n i)) := by
  refine PSpec.intro tt_ok mx_ok Try.func13 rfl (by decide) ?_; (conv => whnf)
  by_cases hr : i < 0 ∨ n ≤ i
  · repeat' (first
        | (refine needI (by first | omega | (dsimp only; omega)) ?_; conv => whnf)
        | (refine arI trivial (by omega) ?_; conv => whnf)
        | (refine arU trivial (by omega) ?_; conv => whnf)
        | (refine arB trivial (by omega) ?_; conv => whnf)
        | (refine drawI (by decide +kernel) ?_; conv => whnf)
        | (refine drawR (by decide +kernel) ?_; conv => whnf)
        | (refine boxP rfl ?_; conv => whnf)
        | (refine appI _ rfl (by first | omega | (dsimp only; omega) | (simp only [List.length_cons, List.length_nil, List.length_append]; omega)) ?_; conv => whnf)
        | (refine rowSetI _ rfl ?_; conv => whnf)
        | (refine cmpT (by omega) ?_; conv => whnf)
        | (refine cmpF (by omega) ?_; conv => whnf)
        | (refine cmpI (fun _ => ?_) (fun _ => ?_) <;> conv => whnf))
    all_goals exact ⟨nbrA_eq (by rw [nbr, if_pos hr]), rfl⟩
  · by_cases h4 : t = 4 ∧ (l.length : Int) = n
    · obtain ⟨rfl, rfl⟩ := h4
      repeat' (first
          | (refine needI (by first | omega | (dsimp only; omega)) ?_; conv => whnf)
          | (refine arI trivial (by omega) ?_; conv => whnf)
          | (refine arU trivial (by omega) ?_; conv => whnf)
          | (refine arB trivial (by omega) ?_; conv => whnf)
          | (refine drawI (by decide +kernel) ?_; conv => whnf)
          | (refine drawR (by decide +kernel) ?_; conv => whnf)
          | (refine boxP rfl ?_; conv => whnf)
          | (refine appI _ rfl (by first | omega | (dsimp only; omega) | (simp only [List.length_cons, List.length_nil, List.length_append]; omega)) ?_; conv => whnf)
          | (refine rowSetI _ rfl ?_; conv => whnf)
          | (refine cmpT (by omega) ?_; conv => whnf)
          | (refine cmpF (by omega) ?_; conv => whnf)
          | (refine cmpI (fun _ => ?_) (fun _ => ?_) <;> conv => whnf))
      (refine Spec.of_pure (n := 5) (linkF 4 l l.length hl hl) rfl ?_; rintro _ rfl; conv => whnf)
      by_cases hs : shp l
      · have hlk : lkB 4 l l.length = true := by unfold lkB; rw [decide_eq_true]; exact fun _ => ⟨hs, rfl⟩
        rw [hlk]
        have h1 : ((List.range l.length).map (nbF 4 l l.length)).length = l.length := by simp
        have h2 : ((List.range l.length).map (nbS 4 l l.length)).length = l.length := by simp
        have h3 : ((List.range l.length).map (nbP 4 l l.length)).length = l.length := by simp
        conv => whnf
        repeat' (first
            | (refine needI (by first | omega | (dsimp only; omega)) ?_; conv => whnf)
            | (refine arI trivial (by omega) ?_; conv => whnf)
            | (refine arU trivial (by omega) ?_; conv => whnf)
            | (refine arB trivial (by omega) ?_; conv => whnf)
            | (refine drawI (by decide +kernel) ?_; conv => whnf)
            | (refine drawR (by decide +kernel) ?_; conv => whnf)
            | (refine boxP rfl ?_; conv => whnf)
            | (refine appI _ rfl (by first | omega | (dsimp only; omega) | (simp only [List.length_cons, List.length_nil, List.length_append]; omega)) ?_; conv => whnf)
            | (refine rowSetI _ rfl ?_; conv => whnf)
            | (refine cmpT (by omega) ?_; conv => whnf)
            | (refine cmpF (by omega) ?_; conv => whnf)
            | (refine cmpI (fun _ => ?_) (fun _ => ?_) <;> conv => whnf))
        have hi : i.toNat < l.length := by omega
        refine ⟨nbrA_eq ?_, rfl⟩
        rw [getD_map_range _ _ _ hi, getD_map_range _ _ _ hi, getD_map_range _ _ _ hi, nbr, if_neg hr, if_neg (by decide), if_neg (by decide), if_pos ⟨rfl, rfl, hs⟩]
        simp [nbF, nbS, nbP, hlk]
      · have hlk : lkB 4 l l.length = false := by unfold lkB; rw [decide_eq_false]; exact fun h => hs (h rfl).1
        rw [hlk]
        conv => whnf
        repeat' (first
            | (refine needI (by first | omega | (dsimp only; omega)) ?_; conv => whnf)
            | (refine arI trivial (by omega) ?_; conv => whnf)
            | (refine arU trivial (by omega) ?_; conv => whnf)
            | (refine arB trivial (by omega) ?_; conv => whnf)
            | (refine drawI (by decide +kernel) ?_; conv => whnf)
            | (refine drawR (by decide +kernel) ?_; conv => whnf)
            | (refine boxP rfl ?_; conv => whnf)
            | (refine appI _ rfl (by first | omega | (dsimp only; omega) | (simp only [List.length_cons, List.length_nil, List.length_append]; omega)) ?_; conv => whnf)
            | (refine rowSetI _ rfl ?_; conv => whnf)
            | (refine cmpT (by omega) ?_; conv => whnf)
            | (refine cmpF (by omega) ?_; conv => whnf)
            | (refine cmpI (fun _ => ?_) (fun _ => ?_) <;> conv => whnf))
        exact ⟨nbrA_eq (by rw [nbr, if_neg hr, if_neg (by decide), if_neg (by decide), if_neg (fun h => hs h.2.2)]), rfl⟩
    · repeat' (first
          | (refine needI (by first | omega | (dsimp only; omega)) ?_; conv => whnf)
          | (refine arI trivial (by omega) ?_; conv => whnf)
          | (refine arU trivial (by omega) ?_; conv => whnf)
          | (refine arB trivial (by omega) ?_; conv => whnf)
          | (refine drawI (by decide +kernel) ?_; conv => whnf)
          | (refine drawR (by decide +kernel) ?_; conv => whnf)
          | (refine boxP rfl ?_; conv => whnf)
          | (refine appI _ rfl (by first | omega | (dsimp only; omega) | (simp only [List.length_cons, List.length_nil, List.length_append]; omega)) ?_; conv => whnf)
          | (refine rowSetI _ rfl ?_; conv => whnf)
          | (refine cmpT (by omega) ?_; conv => whnf)
          | (refine cmpF (by omega) ?_; conv => whnf)
          | (refine cmpI (fun _ => ?_) (fun _ => ?_) <;> conv => whnf))
      all_goals
        refine ⟨nbrA_eq ?_, rfl⟩
        rw [nbr, if_neg hr]
        first
          | (simp [*]; done)
          | rw [if_neg (by omega), if_neg (by omega), if_neg (fun h => h4 ⟨h.1, h.2.1⟩)]

theorem nbr_out {t : Int} {l : List Int} {n i : Int} (h : i < 0 ∨ n ≤ i) : nbr t l n i = (-1, -1, -1) := by rw [nbr, if_pos h]
/-- in a line or a ring -/
theorem back_line {t : Int} {l : List Int} {n i : Int} (ht : t = 2 ∨ t = 3) : (nbr t l n i).2.2 = -1 ∧ ((nbr t l n i).1 = -1 ∨ (nbr t l n (nbr t l n i).1).2.1 = i) ∧ ((nbr t l n i).2.1 = -1 ∨ (nbr t l n (nbr t l n i).2.1).1 = i) := by
  by_cases hr : i < 0 ∨ n ≤ i
  · rw [nbr_out hr]; simp
  · rcases ht with rfl | rfl
    · have e : nbr 2 l n i = (i - 1, (if i + 1 = n then -1 else i + 1), -1) := by rw [nbr, if_neg hr, if_pos rfl]
      rw [e]
      refine ⟨rfl, ?_, ?_⟩
      · by_cases h0 : i = 0
        · left; simp [h0]
        · right
          dsimp only
          rw [nbr, if_neg (by omega), if_pos rfl]
          dsimp only
          rw [if_neg (by omega)]; omega
      · dsimp only
        by_cases h0 : i + 1 = n
        · left; rw [if_pos h0]
        · right
          rw [if_neg h0, nbr, if_neg (by omega), if_pos rfl]
          dsimp only
          omega
    · have e : nbr 3 l n i = ((if i - 1 < 0 then n - 1 else i - 1), (if i + 1 = n then 0 else i + 1), -1) := by rw [nbr, if_neg hr, if_neg (by decide), if_pos rfl]
      rw [e]
      refine ⟨rfl, .inr ?_, .inr ?_⟩
      · dsimp only
        by_cases h0 : i - 1 < 0
        · rw [if_pos h0, nbr, if_neg (by omega), if_neg (by decide), if_pos rfl]
          dsimp only
          rw [if_pos (by omega)]; omega
        · rw [if_neg h0, nbr, if_neg (by omega), if_neg (by decide), if_pos rfl]
          dsimp only
          rw [if_neg (by omega)]; omega
      · dsimp only
        by_cases h0 : i + 1 = n
        · rw [if_pos h0, nbr, if_neg (by omega), if_neg (by decide), if_pos rfl]
          dsimp only
          rw [if_pos (by omega)]; omega
        · rw [if_neg h0, nbr, if_neg (by omega), if_neg (by decide), if_pos rfl]
          dsimp only
          rw [if_neg (by omega)]; omega
/-- otherwise -/
theorem back_tree {t : Int} {l : List Int} {n i : Int} (ht : ¬ (t = 2 ∨ t = 3)) : ((nbr t l n i).1 = -1 ∨ (nbr t l n (nbr t l n i).1).2.2 = i) ∧ ((nbr t l n i).2.1 = -1 ∨ (nbr t l n (nbr t l n i).2.1).2.2 = i) ∧
    ((nbr t l n i).2.2 = -1 ∨ (nbr t l n (nbr t l n i).2.2).1 = i ∨ (nbr t l n (nbr t l n i).2.2).2.1 = i) ∧ ((nbr t l n i).1 = -1 ↔ (nbr t l n i).2.1 = -1) := by
  by_cases hr : i < 0 ∨ n ≤ i
  · rw [nbr_out hr]; simp
  · by_cases h4 : t = 4 ∧ (l.length : Int) = n ∧ shp l
    · have e : ∀ j : Int, 0 ≤ j → j < n → nbr t l n j = (firstT l j.toNat, secondT l j.toNat, parentT l j.toNat) := fun j h1 h2 => by rw [nbr, if_neg (by omega), if_neg (by omega), if_neg (by omega), if_pos h4]
      obtain ⟨rfl, rfl, hs⟩ := h4
      rw [e i (by omega) (by omega)]
      obtain ⟨k, rfl⟩ : ∃ k : Nat, i = k := ⟨i.toNat, by omega⟩
      have hk : k < l.length := by omega
      dsimp only
      rw [Int.toNat_natCast]
      refine ⟨?_, ?_, ?_, ?_⟩
      · by_cases h2 : l.getD k 0 = 2
        · right
          obtain ⟨a1, a2, a3, a4, a5⟩ := hs.two hk h2
          rw [show firstT l k = ((k + 1 : Nat) : Int) by rw [firstT, if_pos h2], e _ (by omega) (by omega), Int.toNat_natCast]
          exact parentT_first hs hk h2
        · left; rw [firstT, if_neg h2]
      · by_cases h2 : l.getD k 0 = 2
        · right
          obtain ⟨a1, a2, a3, a4, a5⟩ := hs.two hk h2
          rw [show secondT l k = (endAt l (k + 1) : Int) by rw [secondT, if_pos h2], e _ (by omega) (by omega), Int.toNat_natCast]
          exact parentT_second hs hk h2
        · left; rw [secondT, if_neg h2]
      · rcases parN_cases l k k with h | ⟨m, hm, h, hp⟩
        · left; exact h
        · right
          rw [show parentT l k = (m : Int) from h, e _ (by omega) (by omega), Int.toNat_natCast]
          simp only [isPar, Bool.and_eq_true, Bool.or_eq_true, decide_eq_true_eq] at hp
          dsimp only
          rw [firstT, secondT, if_pos hp.1, if_pos hp.1]
          rcases hp.2 with h | h
          · left; omega
          · right; omega
      · by_cases h2 : l.getD k 0 = 2
        · rw [firstT, secondT, if_pos h2, if_pos h2]; omega
        · rw [firstT, secondT, if_neg h2, if_neg h2]
    · have e : ∀ j : Int, nbr t l n j = (-1, -1, -1) := fun j => by
        rw [nbr]
        rw [if_neg (show ¬ t = 2 by omega), if_neg (show ¬ t = 3 by omega), if_neg h4, ite_self]
      simp [e]

theorem lawNeighborsBack (t n : Int) (l : List Int) (i : Int) (hl : l.length ≤ 9223372036854775807) (hn : n ≤ 9223372036854775807) : PSpec Try.prog 5 [.agg [.int .i64 t, .int .i64 n, .sl 0 encI l], .int .i64 i] (fun u => u = .bool true) := by
  refine PSpec.intro tt_ok mx_ok Try.func5 rfl (by decide) ?_; (conv => whnf)
  refine boxP rfl ?_
  conv => whnf
  by_cases h100 : 100 < l.length
  · repeat' (first
        | (refine needI (by first | omega | (dsimp only; omega)) ?_; conv => whnf)
        | (refine arI trivial (by omega) ?_; conv => whnf)
        | (refine arU trivial (by omega) ?_; conv => whnf)
        | (refine arB trivial (by omega) ?_; conv => whnf)
        | (refine drawI (by decide +kernel) ?_; conv => whnf)
        | (refine drawR (by decide +kernel) ?_; conv => whnf)
        | (refine boxP rfl ?_; conv => whnf)
        | (refine appI _ rfl (by first | omega | (dsimp only; omega) | (simp only [List.length_cons, List.length_nil, List.length_append]; omega)) ?_; conv => whnf)
        | (refine rowSetI _ rfl ?_; conv => whnf)
        | (refine cmpT (by omega) ?_; conv => whnf)
        | (refine cmpF (by omega) ?_; conv => whnf)
        | (refine cmpI (fun _ => ?_) (fun _ => ?_) <;> conv => whnf))
    (refine Spec.of_pure (n := 5) (knownF) rfl ?_; rintro _ rfl; conv => whnf)
    exact ⟨rfl, rfl⟩
  · have hN := fun i => neighborsF t l n i (by omega) hn
    refine cmpF (by omega) ?_
    conv => whnf
    have hI := hN i
    by_cases ht : t = 2 ∨ t = 3
    · obtain ⟨b1, b2, b3⟩ := back_line (l := l) (n := n) (i := i) ht
      generalize nbr t l n i = x at b1 b2 b3 hI
      obtain ⟨a, b, c⟩ := x
      have hA := hN a
      have hB := hN b
      dsimp only at b1 b2 b3
      generalize nbr t l n a = y at b2 hA
      generalize nbr t l n b = z at b3 hB
      obtain ⟨y1, y2, y3⟩ := y
      obtain ⟨z1, z2, z3⟩ := z
      dsimp only [nbrA] at b2 b3 hI hA hB
      (refine Spec.of_pure (n := 5) (hI) rfl ?_; rintro _ rfl; conv => whnf)
      refine cmpI (fun _ => ?_) (fun _ => ?_) <;> conv => whnf
      · (refine Spec.of_pure (n := 5) (hA) rfl ?_; rintro _ rfl; conv => whnf)
        (refine Spec.of_pure (n := 5) (hB) rfl ?_; rintro _ rfl; conv => whnf)
        repeat' (first
            | (refine needI (by first | omega | (dsimp only; omega)) ?_; conv => whnf)
            | (refine arI trivial (by omega) ?_; conv => whnf)
            | (refine arU trivial (by omega) ?_; conv => whnf)
            | (refine arB trivial (by omega) ?_; conv => whnf)
            | (refine drawI (by decide +kernel) ?_; conv => whnf)
            | (refine drawR (by decide +kernel) ?_; conv => whnf)
            | (refine boxP rfl ?_; conv => whnf)
            | (refine appI _ rfl (by first | omega | (dsimp only; omega) | (simp only [List.length_cons, List.length_nil, List.length_append]; omega)) ?_; conv => whnf)
            | (refine rowSetI _ rfl ?_; conv => whnf)
            | (refine cmpT (by omega) ?_; conv => whnf)
            | (refine cmpF (by omega) ?_; conv => whnf)
            | (refine cmpI (fun _ => ?_) (fun _ => ?_) <;> conv => whnf))
        all_goals
          (refine Spec.of_pure (n := 5) (knownF) rfl ?_; rintro _ rfl; conv => whnf)
          exact ⟨rfl, rfl⟩
      · refine cmpT (by omega) ?_
        conv => whnf
        (refine Spec.of_pure (n := 5) (hA) rfl ?_; rintro _ rfl; conv => whnf)
        (refine Spec.of_pure (n := 5) (hB) rfl ?_; rintro _ rfl; conv => whnf)
        repeat' (first
            | (refine needI (by first | omega | (dsimp only; omega)) ?_; conv => whnf)
            | (refine arI trivial (by omega) ?_; conv => whnf)
            | (refine arU trivial (by omega) ?_; conv => whnf)
            | (refine arB trivial (by omega) ?_; conv => whnf)
            | (refine drawI (by decide +kernel) ?_; conv => whnf)
            | (refine drawR (by decide +kernel) ?_; conv => whnf)
            | (refine boxP rfl ?_; conv => whnf)
            | (refine appI _ rfl (by first | omega | (dsimp only; omega) | (simp only [List.length_cons, List.length_nil, List.length_append]; omega)) ?_; conv => whnf)
            | (refine rowSetI _ rfl ?_; conv => whnf)
            | (refine cmpT (by omega) ?_; conv => whnf)
            | (refine cmpF (by omega) ?_; conv => whnf)
            | (refine cmpI (fun _ => ?_) (fun _ => ?_) <;> conv => whnf))
        all_goals
          (refine Spec.of_pure (n := 5) (knownF) rfl ?_; rintro _ rfl; conv => whnf)
          exact ⟨rfl, rfl⟩
    · obtain ⟨b1, b2, b3, b4⟩ := back_tree (l := l) (n := n) (i := i) ht
      generalize nbr t l n i = x at b1 b2 b3 b4 hI
      obtain ⟨a, b, c⟩ := x
      have hA := hN a
      have hB := hN b
      have hC := hN c
      dsimp only at b1 b2 b3 b4
      generalize nbr t l n a = y at b1 hA
      generalize nbr t l n b = z at b2 hB
      generalize nbr t l n c = u at b3 hC
      obtain ⟨y1, y2, y3⟩ := y
      obtain ⟨z1, z2, z3⟩ := z
      obtain ⟨u1, u2, u3⟩ := u
      dsimp only [nbrA] at b1 b2 b3 hI hA hB hC
      (refine Spec.of_pure (n := 5) (hI) rfl ?_; rintro _ rfl; conv => whnf)
      refine cmpF (by omega) ?_
      conv => whnf
      refine cmpF (by omega) ?_
      conv => whnf
      (refine Spec.of_pure (n := 5) (hA) rfl ?_; rintro _ rfl; conv => whnf)
      (refine Spec.of_pure (n := 5) (hB) rfl ?_; rintro _ rfl; conv => whnf)
      (refine Spec.of_pure (n := 5) (hC) rfl ?_; rintro _ rfl; conv => whnf)
      repeat' (first
          | (refine needI (by first | omega | (dsimp only; omega)) ?_; conv => whnf)
          | (refine arI trivial (by omega) ?_; conv => whnf)
          | (refine arU trivial (by omega) ?_; conv => whnf)
          | (refine arB trivial (by omega) ?_; conv => whnf)
          | (refine drawI (by decide +kernel) ?_; conv => whnf)
          | (refine drawR (by decide +kernel) ?_; conv => whnf)
          | (refine boxP rfl ?_; conv => whnf)
          | (refine appI _ rfl (by first | omega | (dsimp only; omega) | (simp only [List.length_cons, List.length_nil, List.length_append]; omega)) ?_; conv => whnf)
          | (refine rowSetI _ rfl ?_; conv => whnf)
          | (refine cmpT (by omega) ?_; conv => whnf)
          | (refine cmpF (by omega) ?_; conv => whnf)
          | (refine cmpI (fun _ => ?_) (fun _ => ?_) <;> conv => whnf))
      all_goals
        (refine Spec.of_pure (n := 5) (knownF) rfl ?_; rintro _ rfl; conv => whnf)
        exact ⟨rfl, rfl⟩
end Go.Proofs.Ytihligeggkpolaa
