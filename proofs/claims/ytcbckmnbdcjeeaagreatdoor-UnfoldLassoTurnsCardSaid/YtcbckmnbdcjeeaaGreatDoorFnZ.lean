
/-
  Neighbors by the document's answer.
-/
import Derived.Test.YtcbckmnbdcjeeaaGreatDoorFnY
set_option linter.unusedVariables false
set_option linter.unusedSimpArgs false
namespace Go.Proofs.YtcbckmnbdcjeeaaGreatDoor
set_option maxRecDepth 100000
set_option maxHeartbeats 8000000

theorem endR (l : List Int) (a : Int) (i : Nat) (ha : a = i) (h : shp l) (hi : i < l.length) (hl : l.length ≤ 1000) : PSpec Tryz.prog 163 [.sl 0 encI l, .int .i64 a] (fun u => u = .int .i64 (endAt l i : Int)) := by
  subst ha
  have hat := h.at hi
  refine PSpec.intro tt_ok mx_ok Tryz.func163 rfl (by decide) ?_; (conv => whnf)
  refine WPc.loopF tt_ok mx_ok (fun x : Nat × Nat => x.2 ≤ l.length ∧ x.1 ≤ x.2 + 1 ∧ skipN x.1 (l.drop x.2) = some (l.drop (endAt l i))) (fun x => [(5, .int .i64 (x.1 : Int)), (1, .int .i64 (x.2 : Int))]) (fun _ => []) (fun x => l.length - x.2) (1, i) ⟨by dsimp only; omega, by dsimp only; omega, hat.1⟩ ?_; conv => whnf
  refine ⟨(Sub.id_ 400 rfl auto_ auto_), ?_⟩
  rintro x ⟨h1, h2, h3⟩
  conv => whnf
  refine cmpI (fun h4 => ?_) (fun h4 => ?_) <;> conv => whnf
  · obtain ⟨d, hd⟩ : ∃ d, x.1 = d + 1 := ⟨x.1 - 1, by omega⟩
    rw [hd] at h3
    have hj : x.2 < l.length := by
      by_cases hj : x.2 < l.length
      · exact hj
      · rw [List.drop_of_length_le (by omega), skipN_nil] at h3; cases h3
    rw [drop_cons hj, skipN_cons] at h3
    refine needI (by omega) ?_
    rw [Int.toNat_natCast]
    conv => whnf
    by_cases h0 : l.getD x.2 0 = 0
    · rw [if_pos h0] at h3
      repeat' (first
          | (refine needI (by first | omega | (dsimp only; omega)) ?_; conv => whnf)
          | (refine arI trivial (by omega) ?_; conv => whnf)
          | (refine cmpT (by omega) ?_; conv => whnf)
          | (refine cmpF (by omega) ?_; conv => whnf)
          | fail)
      exact ⟨(d, x.2 + 1), (Sub.id_ 400 rfl auto_ auto_), ⟨by dsimp only; omega, by dsimp only; omega, h3⟩, by dsimp only; omega⟩
    · rw [if_neg h0] at h3
      by_cases h5 : l.getD x.2 0 = 2
      · rw [if_pos h5] at h3
        repeat' (first
            | (refine needI (by first | omega | (dsimp only; omega)) ?_; conv => whnf)
            | (refine arI trivial (by omega) ?_; conv => whnf)
            | (refine cmpT (by omega) ?_; conv => whnf)
            | (refine cmpF (by omega) ?_; conv => whnf)
            | fail)
        exact ⟨(d + 2, x.2 + 1), (Sub.id_ 400 rfl auto_ auto_), ⟨by dsimp only; omega, by dsimp only; omega, h3⟩, by dsimp only; omega⟩
      · rw [if_neg h5] at h3; cases h3
  · have h6 : x.1 = 0 := by omega
    rw [h6, skipN_zero, Option.some.injEq] at h3
    have h5 := congrArg List.length h3
    simp only [List.length_drop] at h5
    exact ⟨av_int (by omega), rfl⟩
theorem isPar_a {l : List Int} {j k : Nat} (h : l.getD k 0 = 2) (h2 : k + 1 = j) : isPar l j k = true := by unfold isPar; rw [decide_eq_true h, decide_eq_true h2]; rfl
theorem isPar_b {l : List Int} {j k : Nat} (h : l.getD k 0 = 2) (h2 : endAt l (k + 1) = j) : isPar l j k = true := by unfold isPar; rw [decide_eq_true h, decide_eq_true h2]; cases decide (k + 1 = j) <;> rfl
theorem isPar_c {l : List Int} {j k : Nat} (h : ¬ k + 1 = j) (h2 : ¬ endAt l (k + 1) = j) : isPar l j k = false := by unfold isPar; rw [decide_eq_false h, decide_eq_false h2]; cases decide (l.getD k 0 = 2) <;> rfl
theorem isPar_d {l : List Int} {j k : Nat} (h : ¬ l.getD k 0 = 2) : isPar l j k = false := by unfold isPar; rw [decide_eq_false h]; rfl
theorem neighborsR (t : Int) (l : List Int) (n i : Nat) (hl : l.length ≤ 1000) (hn : n ≤ 1000) (hi : i < n) : PSpec Tryz.prog 136 [.int .i64 t, .sl 0 encI l, .int .i64 (n : Int), .int .i64 (i : Int)] (fun u => u = nbrA (nbr t l n i)) := by
  have he := nbr.eq_1 t l n i
  rw [if_neg (by omega)] at he
  refine PSpec.intro tt_ok mx_ok Tryz.func136 rfl (by decide) ?_; (conv => whnf)
  repeat' (first
      | (refine needI (by first | omega | (dsimp only; omega)) ?_; conv => whnf)
      | (refine arI trivial (by omega) ?_; conv => whnf)
      | (refine cmpT (by omega) ?_; conv => whnf)
      | (refine cmpF (by omega) ?_; conv => whnf)
      | fail)
  refine Spec.dcall (n := 5) (withinT _ _ _) rfl (fun _ => ?_) (fun _ => ?_) <;> (conv => whnf)
  case refine_2 => rename_i h; omega
  refine cmpI (fun h3 => ?_) (fun h3 => ?_) <;> conv => whnf
  · rw [if_neg (by omega), if_pos h3] at he
    have hm : ((i : Int) + 1).tmod n = if (i : Int) + 1 = n then 0 else (i : Int) + 1 := by
      by_cases h : (i : Int) + 1 = n
      · rw [if_pos h, h, Int.tmod_self]
      · rw [if_neg h, Int.tmod_eq_of_lt (by omega) (by omega)]
    by_cases hz : i = 0
    · rw [if_pos (by omega)] at he
      repeat' (first
          | (refine needI (by first | omega | (dsimp only; omega)) ?_; conv => whnf)
          | (refine arI trivial (by omega) ?_; conv => whnf)
          | (refine cmpT (by omega) ?_; conv => whnf)
          | (refine cmpF (by omega) ?_; conv => whnf)
          | fail)
      refine drawI (by decide +kernel) ?_
      conv => whnf
      repeat' (first
          | (refine needI (by first | omega | (dsimp only; omega)) ?_; conv => whnf)
          | (refine arI trivial (by omega) ?_; conv => whnf)
          | (refine cmpT (by omega) ?_; conv => whnf)
          | (refine cmpF (by omega) ?_; conv => whnf)
          | fail)
      exact ⟨nbrA_eq (by rw [he, hm]), rfl⟩
    · rw [if_neg (by omega)] at he
      repeat' (first
          | (refine needI (by first | omega | (dsimp only; omega)) ?_; conv => whnf)
          | (refine arI trivial (by omega) ?_; conv => whnf)
          | (refine cmpT (by omega) ?_; conv => whnf)
          | (refine cmpF (by omega) ?_; conv => whnf)
          | fail)
      refine drawI (by decide +kernel) ?_
      conv => whnf
      repeat' (first
          | (refine needI (by first | omega | (dsimp only; omega)) ?_; conv => whnf)
          | (refine arI trivial (by omega) ?_; conv => whnf)
          | (refine cmpT (by omega) ?_; conv => whnf)
          | (refine cmpF (by omega) ?_; conv => whnf)
          | fail)
      exact ⟨nbrA_eq (by rw [he, hm]), rfl⟩
  refine cmpI (fun h2 => ?_) (fun h2 => ?_) <;> conv => whnf
  · rw [if_pos h2] at he
    by_cases hz : (i : Int) + 1 = n
    · rw [if_pos hz] at he
      repeat' (first
          | (refine needI (by first | omega | (dsimp only; omega)) ?_; conv => whnf)
          | (refine arI trivial (by omega) ?_; conv => whnf)
          | (refine cmpT (by omega) ?_; conv => whnf)
          | (refine cmpF (by omega) ?_; conv => whnf)
          | fail)
      exact ⟨nbrA_eq he, rfl⟩
    · rw [if_neg hz] at he
      repeat' (first
          | (refine needI (by first | omega | (dsimp only; omega)) ?_; conv => whnf)
          | (refine arI trivial (by omega) ?_; conv => whnf)
          | (refine cmpT (by omega) ?_; conv => whnf)
          | (refine cmpF (by omega) ?_; conv => whnf)
          | fail)
      exact ⟨nbrA_eq he, rfl⟩
  rw [if_neg h2, if_neg h3] at he
  by_cases h4 : t = 4 ∧ (l.length : Int) = n
  case neg =>
    rw [if_neg (fun h => h4 ⟨h.1, h.2.1⟩)] at he
    repeat' (first
        | (refine needI (by first | omega | (dsimp only; omega)) ?_; conv => whnf)
        | (refine arI trivial (by omega) ?_; conv => whnf)
        | (refine arU trivial (by omega) ?_; conv => whnf)
        | (refine arB trivial (by omega) ?_; conv => whnf)
        | (refine drawI (by decide +kernel) ?_; conv => whnf)
        | (refine drawR (by decide +kernel) ?_; conv => whnf)
        | (refine drawP (by decide +kernel) ?_; conv => whnf)
        | (refine boxP rfl ?_; conv => whnf)
        | (refine appI _ rfl (by first | omega | (dsimp only; omega) | (simp only [List.length_cons, List.length_nil, List.length_append]; omega)) ?_; conv => whnf)
        | (refine rowSetI _ rfl ?_; conv => whnf)
        | (refine cmpT (by omega) ?_; conv => whnf)
        | (refine cmpF (by omega) ?_; conv => whnf)
        | (refine cmpI (fun _ => ?_) (fun _ => ?_) <;> conv => whnf))
    all_goals exact ⟨nbrA_eq he, rfl⟩
  obtain ⟨rfl, h5⟩ := h4
  repeat' (first
      | (refine needI (by first | omega | (dsimp only; omega)) ?_; conv => whnf)
      | (refine arI trivial (by omega) ?_; conv => whnf)
      | (refine cmpT (by omega) ?_; conv => whnf)
      | (refine cmpF (by omega) ?_; conv => whnf)
      | fail)
  refine Spec.dcall (n := 5) (isShapeD l hl) rfl (fun _ => ?_) (fun _ => ?_) <;> (conv => whnf)
  case refine_2 =>
    rename_i hs
    rw [if_neg (fun h => hs h.2.2)] at he
    exact ⟨nbrA_eq he, rfl⟩
  rename_i hs
  rw [if_pos ⟨rfl, h5, hs⟩, Int.toNat_natCast] at he
  refine needI (by omega) ?_
  rw [Int.toNat_natCast]
  conv => whnf
  by_cases h6 : l.getD i 0 = 2
  · have h7 := hs.two (by omega) h6
    rw [firstT, if_pos h6, secondT, if_pos h6] at he
    repeat' (first
        | (refine needI (by first | omega | (dsimp only; omega)) ?_; conv => whnf)
        | (refine arI trivial (by omega) ?_; conv => whnf)
        | (refine cmpT (by omega) ?_; conv => whnf)
        | (refine cmpF (by omega) ?_; conv => whnf)
        | fail)
    (refine Spec.of_pure (n := 5) (endR l _ (i + 1) (by omega) hs (by omega) hl) rfl ?_; rintro _ rfl; conv => whnf)
    refine WPc.loopF tt_ok mx_ok (fun k : Nat => k ≤ i) (fun k => [(17, .int .i64 (k : Int)), (16, .int .i64 (parN l i k))]) (fun _ => []) (fun k => i - k) 0 (Nat.zero_le _) ?_; conv => whnf
    refine ⟨(Sub.id_ 400 rfl auto_ auto_), ?_⟩
    rintro k hk
    conv => whnf
    refine cmpI (fun h8 => ?_) (fun h8 => ?_) <;> conv => whnf
    · have hsu := parN_succ l i k
      refine needI (by omega) ?_
      rw [Int.toNat_natCast]
      conv => whnf
      refine cmpI (fun h9 => ?_) (fun h9 => ?_) <;> conv => whnf
      · have h10 := hs.two (by omega) h9
        by_cases h11 : k + 1 = i
        · rw [isPar_a h9 h11, if_pos rfl] at hsu
          repeat' (first
              | (refine needI (by first | omega | (dsimp only; omega)) ?_; conv => whnf)
              | (refine arI trivial (by omega) ?_; conv => whnf)
              | (refine cmpT (by omega) ?_; conv => whnf)
              | (refine cmpF (by omega) ?_; conv => whnf)
              | fail)
          exact ⟨k + 1, (Sub.id_ 400 rfl auto_ auto_), by omega, by dsimp only; omega⟩
        · repeat' (first
              | (refine needI (by first | omega | (dsimp only; omega)) ?_; conv => whnf)
              | (refine arI trivial (by omega) ?_; conv => whnf)
              | (refine cmpT (by omega) ?_; conv => whnf)
              | (refine cmpF (by omega) ?_; conv => whnf)
              | fail)
          (refine Spec.of_pure (n := 5) (endR l _ (k + 1) (by omega) hs (by omega) hl) rfl ?_; rintro _ rfl; conv => whnf)
          by_cases h12 : endAt l (k + 1) = i
          · rw [isPar_b h9 h12, if_pos rfl] at hsu
            repeat' (first
                | (refine needI (by first | omega | (dsimp only; omega)) ?_; conv => whnf)
                | (refine arI trivial (by omega) ?_; conv => whnf)
                | (refine cmpT (by omega) ?_; conv => whnf)
                | (refine cmpF (by omega) ?_; conv => whnf)
                | fail)
            exact ⟨k + 1, (Sub.id_ 400 rfl auto_ auto_), by omega, by dsimp only; omega⟩
          · rw [isPar_c h11 h12, if_neg (by decide)] at hsu
            repeat' (first
                | (refine needI (by first | omega | (dsimp only; omega)) ?_; conv => whnf)
                | (refine arI trivial (by omega) ?_; conv => whnf)
                | (refine cmpT (by omega) ?_; conv => whnf)
                | (refine cmpF (by omega) ?_; conv => whnf)
                | fail)
            exact ⟨k + 1, (Sub.id_ 400 rfl auto_ auto_), by omega, by dsimp only; omega⟩
      · rw [isPar_d h9, if_neg (by decide)] at hsu
        repeat' (first
            | (refine needI (by first | omega | (dsimp only; omega)) ?_; conv => whnf)
            | (refine arI trivial (by omega) ?_; conv => whnf)
            | (refine cmpT (by omega) ?_; conv => whnf)
            | (refine cmpF (by omega) ?_; conv => whnf)
            | fail)
        exact ⟨k + 1, (Sub.id_ 400 rfl auto_ auto_), by omega, by dsimp only; omega⟩
    · obtain rfl : k = i := by omega
      exact ⟨nbrA_eq he, rfl⟩
  · rw [firstT, if_neg h6, secondT, if_neg h6] at he
    repeat' (first
        | (refine needI (by first | omega | (dsimp only; omega)) ?_; conv => whnf)
        | (refine arI trivial (by omega) ?_; conv => whnf)
        | (refine cmpT (by omega) ?_; conv => whnf)
        | (refine cmpF (by omega) ?_; conv => whnf)
        | fail)
    refine WPc.loopF tt_ok mx_ok (fun k : Nat => k ≤ i) (fun k => [(17, .int .i64 (k : Int)), (16, .int .i64 (parN l i k))]) (fun _ => []) (fun k => i - k) 0 (Nat.zero_le _) ?_; conv => whnf
    refine ⟨(Sub.id_ 400 rfl auto_ auto_), ?_⟩
    rintro k hk
    conv => whnf
    refine cmpI (fun h8 => ?_) (fun h8 => ?_) <;> conv => whnf
    · have hsu := parN_succ l i k
      refine needI (by omega) ?_
      rw [Int.toNat_natCast]
      conv => whnf
      refine cmpI (fun h9 => ?_) (fun h9 => ?_) <;> conv => whnf
      · have h10 := hs.two (by omega) h9
        by_cases h11 : k + 1 = i
        · rw [isPar_a h9 h11, if_pos rfl] at hsu
          repeat' (first
              | (refine needI (by first | omega | (dsimp only; omega)) ?_; conv => whnf)
              | (refine arI trivial (by omega) ?_; conv => whnf)
              | (refine cmpT (by omega) ?_; conv => whnf)
              | (refine cmpF (by omega) ?_; conv => whnf)
              | fail)
          exact ⟨k + 1, (Sub.id_ 400 rfl auto_ auto_), by omega, by dsimp only; omega⟩
        · repeat' (first
              | (refine needI (by first | omega | (dsimp only; omega)) ?_; conv => whnf)
              | (refine arI trivial (by omega) ?_; conv => whnf)
              | (refine cmpT (by omega) ?_; conv => whnf)
              | (refine cmpF (by omega) ?_; conv => whnf)
              | fail)
          (refine Spec.of_pure (n := 5) (endR l _ (k + 1) (by omega) hs (by omega) hl) rfl ?_; rintro _ rfl; conv => whnf)
          by_cases h12 : endAt l (k + 1) = i
          · rw [isPar_b h9 h12, if_pos rfl] at hsu
            repeat' (first
                | (refine needI (by first | omega | (dsimp only; omega)) ?_; conv => whnf)
                | (refine arI trivial (by omega) ?_; conv => whnf)
                | (refine cmpT (by omega) ?_; conv => whnf)
                | (refine cmpF (by omega) ?_; conv => whnf)
                | fail)
            exact ⟨k + 1, (Sub.id_ 400 rfl auto_ auto_), by omega, by dsimp only; omega⟩
          · rw [isPar_c h11 h12, if_neg (by decide)] at hsu
            repeat' (first
                | (refine needI (by first | omega | (dsimp only; omega)) ?_; conv => whnf)
                | (refine arI trivial (by omega) ?_; conv => whnf)
                | (refine cmpT (by omega) ?_; conv => whnf)
                | (refine cmpF (by omega) ?_; conv => whnf)
                | fail)
            exact ⟨k + 1, (Sub.id_ 400 rfl auto_ auto_), by omega, by dsimp only; omega⟩
      · rw [isPar_d h9, if_neg (by decide)] at hsu
        repeat' (first
            | (refine needI (by first | omega | (dsimp only; omega)) ?_; conv => whnf)
            | (refine arI trivial (by omega) ?_; conv => whnf)
            | (refine cmpT (by omega) ?_; conv => whnf)
            | (refine cmpF (by omega) ?_; conv => whnf)
            | fail)
        exact ⟨k + 1, (Sub.id_ 400 rfl auto_ auto_), by omega, by dsimp only; omega⟩
    · obtain rfl : k = i := by omega
      exact ⟨nbrA_eq he, rfl⟩
end Go.Proofs.YtcbckmnbdcjeeaaGreatDoor
