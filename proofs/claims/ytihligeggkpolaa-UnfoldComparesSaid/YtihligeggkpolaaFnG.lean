/-
  Shapes, their comparison, what the statements know of the program.
-/
import Derived.Test.YtihligeggkpolaaFnF
namespace Go.Proofs.Ytihligeggkpolaa
set_option maxRecDepth 10000
set_option maxHeartbeats 2000000

theorem refWithin (n lo hi : Int) : PSpec Try.prog 18 [.int .i64 n, .int .i64 lo, .int .i64 hi] (fun u => u = .bool (decide (lo ≤ n ∧ n ≤ hi))) := by
  refine PSpec.intro tt_ok mx_ok Try.func18 rfl (by decide) ?_; (conv => whnf)
  refine cmpI (fun h1 => ?_) (fun h1 => ?_) <;> conv => whnf
  · refine cmpI (fun h2 => ?_) (fun h2 => ?_) <;> conv => whnf
    · exact ⟨av_bool (by simp [h1, h2]), rfl⟩
    · exact ⟨av_bool (by simp [h2]), rfl⟩
  · exact ⟨av_bool (by simp [h1]), rfl⟩

/-- sorting what is sorted writes nothing -/
theorem sortIntsAsc (l : List (List Int)) (hn : l.length ≤ 4611686018427387904) (hb : ∀ a ∈ l, a.length ≤ 4611686018427387904) (ha : Asc l) : PSpec Try.prog 20 [.sl [] encL l] (fun u => u = .tup []) := by
  refine PSpec.intro tt_ok mx_ok Try.func20 rfl (by decide) ?_; (conv => whnf)
  refine WPc.loop (fun i : Nat => 1 ≤ i ∧ i ≤ l.length + 1) (fun i => ((.sl [] encL l) :: .top :: (.int .i64 (i : Int)) :: T 41)) (fun _ => Mem.ofL []) (fun i => l.length + 1 - i) 1 ⟨by omega, by omega⟩ (Sub.by_ [] [] 400 rfl trivial (by repeat' (first | exact True.intro | exact rfl | (refine And.intro ?_ ?_) | ((conv => whnf); omega) | ((conv => whnf); simp only [List.length_append, List.length_cons, List.length_nil]; done) | ((conv => whnf); simp only [List.length_append, List.length_cons, List.length_nil]; omega)))) ?_
  rintro i ⟨h1, h2⟩
  refine codeK_ok tt_ok mx_ok _ _ _ _ ?_
  conv => whnf
  refine cmpI (fun h3 => ?_) (fun h3 => ?_) <;> conv => whnf
  · refine WPc.loop (fun _ : Nat => True) (fun _ => ((.sl [] encL l) :: .top :: (.int .i64 (i : Int)) :: (.int .i64 (i : Int)) :: T 40)) (fun _ => Mem.ofL []) (fun _ => 0) 0 trivial (Sub.by_ [] [] 400 rfl trivial (by repeat' (first | exact True.intro | exact rfl | (refine And.intro ?_ ?_) | ((conv => whnf); omega) | ((conv => whnf); simp only [List.length_append, List.length_cons, List.length_nil]; done) | ((conv => whnf); simp only [List.length_append, List.length_cons, List.length_nil]; omega)))) ?_
    intro _ _
    refine codeK_ok tt_ok mx_ok _ _ _ _ ?_
    conv => whnf
    repeat' (first
        | (refine needI (by first | omega | (dsimp only; omega)) ?_; conv => whnf)
        | (refine arI trivial (by omega) ?_; conv => whnf)
        | (refine arU trivial (by omega) ?_; conv => whnf)
        | (refine arB trivial (by omega) ?_; conv => whnf)
        | (refine drawI (by decide +kernel) ?_; conv => whnf)
        | (refine drawR (by decide +kernel) ?_; conv => whnf)
        | (refine boxP rfl ?_; conv => whnf)
        | (refine appI _ rfl (by first | omega | (dsimp only; omega) | (simp only [List.length_cons, List.length_nil, List.length_append]; omega)) ?_; conv => whnf)
        | (refine rowSetI _ rfl ?_; conv => whnf)
        | (refine cmpT (by omega) ?_; conv => whnf)
        | (refine cmpF (by omega) ?_; conv => whnf)
        | (refine cmpI (fun _ => ?_) (fun _ => ?_) <;> conv => whnf))
    have e3 : ((i : Int) - 1).toNat = i - 1 := by omega
    have hi : l.getD (i - 1) [] ∈ l := List.mem_of_getElem? (getD_of_lt (d := []) (l := l) (n := i - 1) (by omega))
    have hc : cmpL (l.getD (i - 1) []) (l.getD i []) < 0 := by
      have h4 := List.pairwise_iff_getElem.1 ha (i - 1) i (by omega) (by omega) (by omega)
      have e1 : l.getD i [] = l[i] := by simp [List.getD, show i < l.length from by omega]
      have e2 : l.getD (i - 1) [] = l[i - 1] := by simp [List.getD, show i - 1 < l.length from by omega]
      rw [e1, e2]; exact h4
    simp only [Int.toNat_natCast, e3]
    refine callPI 5 (refCompareInts (l.getD (i - 1) []) (l.getD i []) (hb _ hi)) rfl ⟨_, rfl⟩ ?_
    rintro _ rfl
    conv => whnf
    repeat' (first
        | (refine needI (by first | omega | (dsimp only; omega)) ?_; conv => whnf)
        | (refine arI trivial (by omega) ?_; conv => whnf)
        | (refine arU trivial (by omega) ?_; conv => whnf)
        | (refine arB trivial (by omega) ?_; conv => whnf)
        | (refine drawI (by decide +kernel) ?_; conv => whnf)
        | (refine drawR (by decide +kernel) ?_; conv => whnf)
        | (refine boxP rfl ?_; conv => whnf)
        | (refine appI _ rfl (by first | omega | (dsimp only; omega) | (simp only [List.length_cons, List.length_nil, List.length_append]; omega)) ?_; conv => whnf)
        | (refine rowSetI _ rfl ?_; conv => whnf)
        | (refine cmpT (by omega) ?_; conv => whnf)
        | (refine cmpF (by omega) ?_; conv => whnf)
        | (refine cmpI (fun _ => ?_) (fun _ => ?_) <;> conv => whnf))
    exact ⟨i + 1, (Sub.by_ [] [] 400 rfl trivial (by repeat' (first | exact True.intro | exact rfl | (refine And.intro ?_ ?_) | ((conv => whnf); omega) | ((conv => whnf); simp only [List.length_append, List.length_cons, List.length_nil]; done) | ((conv => whnf); simp only [List.length_append, List.length_cons, List.length_nil]; omega)))), ⟨by omega, by omega⟩, Nat.sub_lt_sub_left (by omega) (by omega)⟩
  · exact ⟨rfl, rfl⟩

theorem oddEven (n : Nat) (h : n ≤ 8) : (((n : Int).tmod 2 = 0) ∧ shpT n = []) ∨ ∃ m, m ≤ 3 ∧ n = 2 * m + 1 ∧ (n : Int).tmod 2 ≠ 0 := by
  have : n = 0 ∨ n = 1 ∨ n = 2 ∨ n = 3 ∨ n = 4 ∨ n = 5 ∨ n = 6 ∨ n = 7 ∨ n = 8 := by omega
  rcases this with rfl | rfl | rfl | rfl | rfl | rfl | rfl | rfl | rfl
  · left; decide
  · right; exact ⟨0, by decide⟩
  · left; decide
  · right; exact ⟨1, by decide⟩
  · left; decide
  · right; exact ⟨2, by decide⟩
  · left; decide
  · right; exact ⟨3, by decide⟩
  · left; decide

/-- what both functions Shapes give -/
def shapesR (n : Int) : AV := if 1 ≤ n ∧ n ≤ 8 then .tup [.sl [] encL (shpT n.toNat), .int .i64 0] else .tup [.sl [] encL [], .int .i64 1]
theorem shapesR_in {n : Int} (h : 1 ≤ n ∧ n ≤ 8) : shapesR n = .tup [.sl [] encL (shpT n.toNat), .int .i64 0] := if_pos h
theorem shapesR_out {n : Int} (h : ¬ (1 ≤ n ∧ n ≤ 8)) : shapesR n = .tup [.sl [] encL [], .int .i64 1] := if_neg h

theorem unfoldShapesF (n : Int) : PSpec Try.prog 7 [.int .i64 n] (fun u => u = shapesR n) := by
  by_cases h : 1 ≤ n ∧ n ≤ 8
  · rw [shapesR_in h]
    obtain ⟨k, rfl⟩ := Int.eq_ofNat_of_zero_le (show 0 ≤ n by omega)
    rcases oddEven k (by omega) with ⟨he, hs⟩ | ⟨m, hm, rfl, _⟩
    · rw [Int.toNat_natCast, hs]
      refine PSpec.sub (R := fun u => u = .tup [.nilsl, .int .i64 0]) ?_ (by rintro _ rfl; exact ⟨_, rfl, (by repeat' (first | exact True.intro | exact rfl | (refine And.intro ?_ ?_) | ((conv => whnf); omega) | ((conv => whnf); simp only [List.length_append, List.length_cons, List.length_nil]; done) | ((conv => whnf); simp only [List.length_append, List.length_cons, List.length_nil]; omega))), rfl⟩)
      refine PSpec.intro tt_ok mx_ok Try.func7 rfl (by decide) ?_; (conv => whnf)
      repeat' (first
          | (refine needI (by first | omega | (dsimp only; omega)) ?_; conv => whnf)
          | (refine arI trivial (by omega) ?_; conv => whnf)
          | (refine arU trivial (by omega) ?_; conv => whnf)
          | (refine arB trivial (by omega) ?_; conv => whnf)
          | (refine drawI (by decide +kernel) ?_; conv => whnf)
          | (refine drawR (by decide +kernel) ?_; conv => whnf)
          | (refine boxP rfl ?_; conv => whnf)
          | (refine appI _ rfl (by first | omega | (dsimp only; omega) | (simp only [List.length_cons, List.length_nil, List.length_append]; omega)) ?_; conv => whnf)
          | (refine rowSetI _ rfl ?_; conv => whnf)
          | (refine cmpT (by omega) ?_; conv => whnf)
          | (refine cmpF (by omega) ?_; conv => whnf)
          | (refine cmpI (fun _ => ?_) (fun _ => ?_) <;> conv => whnf))
      (refine Spec.of_pure (n := 5) (shapesEven _ he) rfl ?_; rintro _ rfl; conv => whnf)
      exact ⟨rfl, rfl⟩
    · rw [Int.toNat_natCast]
      refine PSpec.intro tt_ok mx_ok Try.func7 rfl (by decide) ?_; (conv => whnf)
      repeat' (first
          | (refine needI (by first | omega | (dsimp only; omega)) ?_; conv => whnf)
          | (refine arI trivial (by omega) ?_; conv => whnf)
          | (refine arU trivial (by omega) ?_; conv => whnf)
          | (refine arB trivial (by omega) ?_; conv => whnf)
          | (refine drawI (by decide +kernel) ?_; conv => whnf)
          | (refine drawR (by decide +kernel) ?_; conv => whnf)
          | (refine boxP rfl ?_; conv => whnf)
          | (refine appI _ rfl (by first | omega | (dsimp only; omega) | (simp only [List.length_cons, List.length_nil, List.length_append]; omega)) ?_; conv => whnf)
          | (refine rowSetI _ rfl ?_; conv => whnf)
          | (refine cmpT (by omega) ?_; conv => whnf)
          | (refine cmpF (by omega) ?_; conv => whnf)
          | (refine cmpI (fun _ => ?_) (fun _ => ?_) <;> conv => whnf))
      (refine Spec.of_pure (n := 5) (shapesOdd m hm) rfl ?_; rintro _ rfl; conv => whnf)
      exact ⟨rfl, rfl⟩
  · rw [shapesR_out h]
    refine PSpec.sub (R := fun u => u = .tup [.nilsl, .int .i64 1]) ?_ (by rintro _ rfl; exact ⟨_, rfl, (by repeat' (first | exact True.intro | exact rfl | (refine And.intro ?_ ?_) | ((conv => whnf); omega) | ((conv => whnf); simp only [List.length_append, List.length_cons, List.length_nil]; done) | ((conv => whnf); simp only [List.length_append, List.length_cons, List.length_nil]; omega))), rfl⟩)
    refine PSpec.intro tt_ok mx_ok Try.func7 rfl (by decide) ?_; (conv => whnf)
    repeat' (first
        | (refine needI (by first | omega | (dsimp only; omega)) ?_; conv => whnf)
        | (refine arI trivial (by omega) ?_; conv => whnf)
        | (refine arU trivial (by omega) ?_; conv => whnf)
        | (refine arB trivial (by omega) ?_; conv => whnf)
        | (refine drawI (by decide +kernel) ?_; conv => whnf)
        | (refine drawR (by decide +kernel) ?_; conv => whnf)
        | (refine boxP rfl ?_; conv => whnf)
        | (refine appI _ rfl (by first | omega | (dsimp only; omega) | (simp only [List.length_cons, List.length_nil, List.length_append]; omega)) ?_; conv => whnf)
        | (refine rowSetI _ rfl ?_; conv => whnf)
        | (refine cmpT (by omega) ?_; conv => whnf)
        | (refine cmpF (by omega) ?_; conv => whnf)
        | (refine cmpI (fun _ => ?_) (fun _ => ?_) <;> conv => whnf))
    · exact ⟨rfl, rfl⟩
    · exact ⟨rfl, rfl⟩
theorem refShapesF (n : Int) : PSpec Try.prog 8 [.int .i64 n] (fun u => u = shapesR n) := by
  by_cases h : 1 ≤ n ∧ n ≤ 8
  · rw [shapesR_in h]
    obtain ⟨k, rfl⟩ := Int.eq_ofNat_of_zero_le (show 0 ≤ n by omega)
    rcases oddEven k (by omega) with ⟨he, hs⟩ | ⟨m, hm, rfl, ho⟩
    · rw [Int.toNat_natCast, hs]
      refine PSpec.sub (R := fun u => u = .tup [.nilsl, .int .i64 0]) ?_ (by rintro _ rfl; exact ⟨_, rfl, (by repeat' (first | exact True.intro | exact rfl | (refine And.intro ?_ ?_) | ((conv => whnf); omega) | ((conv => whnf); simp only [List.length_append, List.length_cons, List.length_nil]; done) | ((conv => whnf); simp only [List.length_append, List.length_cons, List.length_nil]; omega))), rfl⟩)
      refine PSpec.intro tt_ok mx_ok Try.func8 rfl (by decide) ?_; (conv => whnf)
      (refine Spec.of_pure (n := 5) (refWithin _ _ _) rfl ?_; rintro _ rfl; conv => whnf)
      rw [decide_eq_true (by omega)]
      conv => whnf
      refine needI (by decide) ?_
      conv => whnf
      refine cmpT he ?_
      conv => whnf
      exact ⟨rfl, rfl⟩
    · rw [Int.toNat_natCast]
      refine PSpec.intro tt_ok mx_ok Try.func8 rfl (by decide) ?_; (conv => whnf)
      (refine Spec.of_pure (n := 5) (refWithin _ _ _) rfl ?_; rintro _ rfl; conv => whnf)
      rw [decide_eq_true (by omega)]
      conv => whnf
      refine needI (by decide) ?_
      conv => whnf
      refine cmpF ho ?_
      conv => whnf
      (refine Spec.of_pure (n := 5) (refShapesOdd m hm) rfl ?_; rintro _ rfl; conv => whnf)
      have hl := shpT_le (n := 2 * m + 1) (by omega)
      have hasc : Asc (shpT (2 * m + 1)) := by
        have : m = 0 ∨ m = 1 ∨ m = 2 ∨ m = 3 := by omega
        rcases this with rfl | rfl | rfl | rfl <;> decide
      (refine Spec.of_pure (n := 5) (sortIntsAsc (shpT (2 * m + 1)) (by omega) (fun a ha => by have := hl.2 a ha; omega) hasc) rfl ?_; rintro _ rfl; conv => whnf)
      exact ⟨rfl, rfl⟩
  · rw [shapesR_out h]
    refine PSpec.sub (R := fun u => u = .tup [.nilsl, .int .i64 1]) ?_ (by rintro _ rfl; exact ⟨_, rfl, (by repeat' (first | exact True.intro | exact rfl | (refine And.intro ?_ ?_) | ((conv => whnf); omega) | ((conv => whnf); simp only [List.length_append, List.length_cons, List.length_nil]; done) | ((conv => whnf); simp only [List.length_append, List.length_cons, List.length_nil]; omega))), rfl⟩)
    refine PSpec.intro tt_ok mx_ok Try.func8 rfl (by decide) ?_; (conv => whnf)
    (refine Spec.of_pure (n := 5) (refWithin _ _ _) rfl ?_; rintro _ rfl; conv => whnf)
    rw [decide_eq_false (by omega)]
    conv => whnf
    exact ⟨rfl, rfl⟩

theorem sameShapesRefl (l : List (List Int)) (hn : l.length ≤ 4611686018427387904) (hb : ∀ a ∈ l, a.length ≤ 4611686018427387904) : PSpec Try.prog 9 [.sl [] encL l, .sl [] encL l] (fun u => u = .bool true) := by
  refine PSpec.intro tt_ok mx_ok Try.func9 rfl (by decide) ?_; (conv => whnf)
  repeat' (first
      | (refine needI (by first | omega | (dsimp only; omega)) ?_; conv => whnf)
      | (refine arI trivial (by omega) ?_; conv => whnf)
      | (refine arU trivial (by omega) ?_; conv => whnf)
      | (refine arB trivial (by omega) ?_; conv => whnf)
      | (refine drawI (by decide +kernel) ?_; conv => whnf)
      | (refine drawR (by decide +kernel) ?_; conv => whnf)
      | (refine boxP rfl ?_; conv => whnf)
      | (refine appI _ rfl (by first | omega | (dsimp only; omega) | (simp only [List.length_cons, List.length_nil, List.length_append]; omega)) ?_; conv => whnf)
      | (refine rowSetI _ rfl ?_; conv => whnf)
      | (refine cmpT (by omega) ?_; conv => whnf)
      | (refine cmpF (by omega) ?_; conv => whnf)
      | (refine cmpI (fun _ => ?_) (fun _ => ?_) <;> conv => whnf))
  refine WPc.loop (fun i : Nat => i ≤ l.length) (fun i => ((.sl [] encL l) :: (.sl [] encL l) :: .top :: .top :: .top :: (.int .i64 (i : Int)) :: T 21)) (fun _ => Mem.ofL []) (fun i => l.length - i) 0 (by omega) (Sub.by_ [] [] 400 rfl trivial (by repeat' (first | exact True.intro | exact rfl | (refine And.intro ?_ ?_) | ((conv => whnf); omega) | ((conv => whnf); simp only [List.length_append, List.length_cons, List.length_nil]; done) | ((conv => whnf); simp only [List.length_append, List.length_cons, List.length_nil]; omega)))) ?_
  intro i hi
  refine codeK_ok tt_ok mx_ok _ _ _ _ ?_
  conv => whnf
  repeat' (first
      | (refine needI (by first | omega | (dsimp only; omega)) ?_; conv => whnf)
      | (refine arI trivial (by omega) ?_; conv => whnf)
      | (refine arU trivial (by omega) ?_; conv => whnf)
      | (refine arB trivial (by omega) ?_; conv => whnf)
      | (refine drawI (by decide +kernel) ?_; conv => whnf)
      | (refine drawR (by decide +kernel) ?_; conv => whnf)
      | (refine boxP rfl ?_; conv => whnf)
      | (refine appI _ rfl (by first | omega | (dsimp only; omega) | (simp only [List.length_cons, List.length_nil, List.length_append]; omega)) ?_; conv => whnf)
      | (refine rowSetI _ rfl ?_; conv => whnf)
      | (refine cmpT (by omega) ?_; conv => whnf)
      | (refine cmpF (by omega) ?_; conv => whnf)
      | (refine cmpI (fun _ => ?_) (fun _ => ?_) <;> conv => whnf))
  · simp only [Int.toNat_natCast]
    have hm : l.getD i [] ∈ l := List.mem_of_getElem? (getD_of_lt (d := []) (l := l) (n := i) (by omega))
    refine callPI 5 (refSameInts (l.getD i []) (l.getD i []) (hb _ hm)) rfl ⟨_, rfl⟩ ?_
    rintro _ rfl
    rw [decide_eq_true (cmpL_self _)]
    conv => whnf
    repeat' (first
        | (refine needI (by first | omega | (dsimp only; omega)) ?_; conv => whnf)
        | (refine arI trivial (by omega) ?_; conv => whnf)
        | (refine arU trivial (by omega) ?_; conv => whnf)
        | (refine arB trivial (by omega) ?_; conv => whnf)
        | (refine drawI (by decide +kernel) ?_; conv => whnf)
        | (refine drawR (by decide +kernel) ?_; conv => whnf)
        | (refine boxP rfl ?_; conv => whnf)
        | (refine appI _ rfl (by first | omega | (dsimp only; omega) | (simp only [List.length_cons, List.length_nil, List.length_append]; omega)) ?_; conv => whnf)
        | (refine rowSetI _ rfl ?_; conv => whnf)
        | (refine cmpT (by omega) ?_; conv => whnf)
        | (refine cmpF (by omega) ?_; conv => whnf)
        | (refine cmpI (fun _ => ?_) (fun _ => ?_) <;> conv => whnf))
    exact ⟨i + 1, (Sub.by_ [] [] 400 rfl trivial (by repeat' (first | exact True.intro | exact rfl | (refine And.intro ?_ ?_) | ((conv => whnf); omega) | ((conv => whnf); simp only [List.length_append, List.length_cons, List.length_nil]; done) | ((conv => whnf); simp only [List.length_append, List.length_cons, List.length_nil]; omega)))), by omega, Nat.sub_lt_sub_left (by omega) (by omega)⟩
  · exact ⟨rfl, rfl⟩

theorem neighborsRing (s : AV) (count i : Int) (h0 : 0 ≤ i) (h1 : i < count) (hc : count ≤ 9223372036854775807) : PSpec Try.prog 13 [.int .i64 3, s, .int .i64 count, .int .i64 i]
    (fun u => u = .tup [.int .i64 (if i - 1 < 0 then count - 1 else i - 1), .int .i64 (if i + 1 = count then 0 else i + 1), .int .i64 (-1)]) := by
  refine PSpec.intro tt_ok mx_ok Try.func13 rfl (by decide) ?_; (conv => whnf)
  repeat' (first
      | (refine needI (by first | omega | (dsimp only; omega)) ?_; conv => whnf)
      | (refine arI trivial (by omega) ?_; conv => whnf)
      | (refine arU trivial (by omega) ?_; conv => whnf)
      | (refine arB trivial (by omega) ?_; conv => whnf)
      | (refine drawI (by decide +kernel) ?_; conv => whnf)
      | (refine drawR (by decide +kernel) ?_; conv => whnf)
      | (refine boxP rfl ?_; conv => whnf)
      | (refine appI _ rfl (by first | omega | (dsimp only; omega) | (simp only [List.length_cons, List.length_nil, List.length_append]; omega)) ?_; conv => whnf)
      | (refine rowSetI _ rfl ?_; conv => whnf)
      | (refine cmpT (by omega) ?_; conv => whnf)
      | (refine cmpF (by omega) ?_; conv => whnf)
      | (refine cmpI (fun _ => ?_) (fun _ => ?_) <;> conv => whnf))
  all_goals (simp_all [tupOf, persN]; try omega)

end Go.Proofs.Ytihligeggkpolaa
