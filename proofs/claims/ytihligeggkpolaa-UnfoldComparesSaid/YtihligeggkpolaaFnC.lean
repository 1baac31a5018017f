/-
  slices.SortFunc and CompactFunc on short lists of lists of numbers; tidy.
-/
import Derived.Test.YtihligeggkpolaaFnB
namespace Go.Proofs.Ytihligeggkpolaa
set_option maxRecDepth 10000

theorem bitsLen64 (x : Int) (h0 : 0 ≤ x) (h1 : x < 256) : PSpec Try.prog 46 [.int .u64 x] (fun u => ∃ n : Int, u = .int .i64 n) := by
  refine PSpec.intro tt_ok mx_ok Try.func46 rfl (by decide) ?_; (conv => whnf)
  repeat' (first
      | (refine needI (by first | omega | (dsimp only; omega)) ?_; conv => whnf)
      | (refine arI trivial (by omega) ?_; conv => whnf)
      | (refine arU trivial (by omega) ?_; conv => whnf)
      | (refine arB trivial (by omega) ?_; conv => whnf)
      | (refine drawI (by decide +kernel) ?_; conv => whnf)
      | (refine drawR (by decide +kernel) ?_; conv => whnf)
      | (refine boxP rfl ?_; conv => whnf)
      | (refine appI _ rfl (by first | omega | (dsimp only; omega) | (simp only [List.length_cons, List.length_nil, List.length_append]; omega)) ?_; conv => whnf)
      | (refine rowSetI _ rfl ?_; conv => whnf)
      | (refine cmpT (by omega) ?_; conv => whnf)
      | (refine cmpF (by omega) ?_; conv => whnf)
      | (refine cmpI (fun _ => ?_) (fun _ => ?_) <;> conv => whnf))
  refine needI ⟨by omega, Int.lt_of_lt_of_le h1 (by decide)⟩ ?_
  conv => whnf
  refine arW trivial ?_
  conv => whnf
  refine arW trivial ?_
  conv => whnf
  exact ⟨⟨_, rfl⟩, rfl⟩
theorem bitsLen (x : Int) (h0 : 0 ≤ x) (h1 : x < 256) : PSpec Try.prog 36 [.int .u64 x] (fun u => ∃ n : Int, u = .int .i64 n) := by
  refine PSpec.intro tt_ok mx_ok Try.func36 rfl (by decide) ?_; (conv => whnf)
  repeat' (first
      | (refine needI (by first | omega | (dsimp only; omega)) ?_; conv => whnf)
      | (refine arI trivial (by omega) ?_; conv => whnf)
      | (refine arU trivial (by omega) ?_; conv => whnf)
      | (refine arB trivial (by omega) ?_; conv => whnf)
      | (refine drawI (by decide +kernel) ?_; conv => whnf)
      | (refine drawR (by decide +kernel) ?_; conv => whnf)
      | (refine boxP rfl ?_; conv => whnf)
      | (refine appI _ rfl (by first | omega | (dsimp only; omega) | (simp only [List.length_cons, List.length_nil, List.length_append]; omega)) ?_; conv => whnf)
      | (refine rowSetI _ rfl ?_; conv => whnf)
      | (refine cmpT (by omega) ?_; conv => whnf)
      | (refine cmpF (by omega) ?_; conv => whnf)
      | (refine cmpI (fun _ => ?_) (fun _ => ?_) <;> conv => whnf))
  refine Spec.of_pure (n := 5) (bitsLen64 x h0 h1) rfl ?_
  rintro _ ⟨n, rfl⟩
  conv => whnf
  exact ⟨⟨_, rfl⟩, rfl⟩

theorem pdqSmall (l : List (List Int)) (lim : Int) (hn : l.length ≤ 12) (hb : ∀ a ∈ l, a.length ≤ 4611686018427387904) :
    Spec Try.prog 35 [.row 0 l.length 1, .int .i64 0, .int .i64 (l.length : Int), .int .i64 lim, .fn 27 []] (Mem.ofL [(0, rowL l)])
      (fun u M' => u = .tup [] ∧ ∃ l', M' 0 = some (rowL l') ∧ l'.Perm l ∧ Srt cmpL l') := by
  refine Spec.intro tt_ok mx_ok [(0, rowL l)] Try.func35 rfl (by decide) ?_
  conv => whnf
  repeat' (first
      | (refine needI (by first | omega | (dsimp only; omega)) ?_; conv => whnf)
      | (refine arI trivial (by omega) ?_; conv => whnf)
      | (refine arU trivial (by omega) ?_; conv => whnf)
      | (refine arB trivial (by omega) ?_; conv => whnf)
      | (refine drawI (by decide +kernel) ?_; conv => whnf)
      | (refine drawR (by decide +kernel) ?_; conv => whnf)
      | (refine boxP rfl ?_; conv => whnf)
      | (refine appI _ rfl (by first | omega | (dsimp only; omega) | (simp only [List.length_cons, List.length_nil, List.length_append]; omega)) ?_; conv => whnf)
      | (refine rowSetI _ rfl ?_; conv => whnf)
      | (refine cmpT (by omega) ?_; conv => whnf)
      | (refine cmpF (by omega) ?_; conv => whnf)
      | (refine cmpI (fun _ => ?_) (fun _ => ?_) <;> conv => whnf))
  refine WPc.loop (fun _ : Nat => True) (fun _ => ((.row 0 l.length 1) :: (.int .i64 0) :: (.int .i64 (l.length : Int)) :: (.int .i64 lim) :: (.fn 27 []) :: T 143)) (fun _ => Mem.ofL [(0, rowL l)]) (fun _ => 0) 0 trivial (Sub.by_ [(0, .old 0)] _ 400 rfl ⟨rfl, trivial⟩ (by repeat' (first | exact True.intro | exact rfl | (refine And.intro ?_ ?_) | ((conv => whnf); omega) | ((conv => whnf); simp only [List.length_append, List.length_cons, List.length_nil]; done) | ((conv => whnf); simp only [List.length_append, List.length_cons, List.length_nil]; omega)))) ?_
  intro k _
  refine codeK_ok tt_ok mx_ok _ _ _ _ ?_
  conv => whnf
  repeat' (first
      | (refine needI (by first | omega | (dsimp only; omega)) ?_; conv => whnf)
      | (refine arI trivial (by omega) ?_; conv => whnf)
      | (refine arU trivial (by omega) ?_; conv => whnf)
      | (refine arB trivial (by omega) ?_; conv => whnf)
      | (refine drawI (by decide +kernel) ?_; conv => whnf)
      | (refine drawR (by decide +kernel) ?_; conv => whnf)
      | (refine boxP rfl ?_; conv => whnf)
      | (refine appI _ rfl (by first | omega | (dsimp only; omega) | (simp only [List.length_cons, List.length_nil, List.length_append]; omega)) ?_; conv => whnf)
      | (refine rowSetI _ rfl ?_; conv => whnf)
      | (refine cmpT (by omega) ?_; conv => whnf)
      | (refine cmpF (by omega) ?_; conv => whnf)
      | (refine cmpI (fun _ => ?_) (fun _ => ?_) <;> conv => whnf))
  refine Spec.call [(0, .old 0)] [(0, rowL l)] 100 rfl ⟨rfl, trivial⟩ (by repeat' (first | exact True.intro | exact rfl | (refine And.intro ?_ ?_) | ((conv => whnf); omega) | ((conv => whnf); simp only [List.length_append, List.length_cons, List.length_nil]; done) | ((conv => whnf); simp only [List.length_append, List.length_cons, List.length_nil]; omega))) (insSort l (by omega) hb) ?_
  rintro u M' ⟨rfl, l', hM, hp, hs⟩
  refine ⟨[(0, .old 0)], [(0, rowL l')], .tup [], rfl, ⟨?_, trivial⟩, trivial, ?_⟩
  · show blkR _ _ (M' 0) _
    rw [hM]; exact rfl
  · conv => whnf
    exact ⟨rfl, l', rfl, hp, hs⟩

theorem sortFunc (l : List (List Int)) (hn : l.length ≤ 12) (hb : ∀ a ∈ l, a.length ≤ 4611686018427387904) :
    Spec Try.prog 31 [.row 0 l.length 1, .fn 27 []] (Mem.ofL [(0, rowL l)])
      (fun u M' => u = .tup [] ∧ ∃ l', M' 0 = some (rowL l') ∧ l'.Perm l ∧ Srt cmpL l') := by
  refine Spec.intro tt_ok mx_ok [(0, rowL l)] Try.func31 rfl (by decide) ?_
  conv => whnf
  repeat' (first
      | (refine needI (by first | omega | (dsimp only; omega)) ?_; conv => whnf)
      | (refine arI trivial (by omega) ?_; conv => whnf)
      | (refine arU trivial (by omega) ?_; conv => whnf)
      | (refine arB trivial (by omega) ?_; conv => whnf)
      | (refine drawI (by decide +kernel) ?_; conv => whnf)
      | (refine drawR (by decide +kernel) ?_; conv => whnf)
      | (refine boxP rfl ?_; conv => whnf)
      | (refine appI _ rfl (by first | omega | (dsimp only; omega) | (simp only [List.length_cons, List.length_nil, List.length_append]; omega)) ?_; conv => whnf)
      | (refine rowSetI _ rfl ?_; conv => whnf)
      | (refine cmpT (by omega) ?_; conv => whnf)
      | (refine cmpF (by omega) ?_; conv => whnf)
      | (refine cmpI (fun _ => ?_) (fun _ => ?_) <;> conv => whnf))
  refine Spec.of_pure (n := 5) (bitsLen l.length (by omega) (by omega)) rfl ?_
  rintro _ ⟨lim, rfl⟩
  conv => whnf
  refine Spec.call [(0, .old 0)] [(0, rowL l)] 100 rfl ⟨rfl, trivial⟩ (by repeat' (first | exact True.intro | exact rfl | (refine And.intro ?_ ?_) | ((conv => whnf); omega) | ((conv => whnf); simp only [List.length_append, List.length_cons, List.length_nil]; done) | ((conv => whnf); simp only [List.length_append, List.length_cons, List.length_nil]; omega))) (pdqSmall l lim hn hb) ?_
  rintro u M' ⟨rfl, l', hM, hp, hs⟩
  refine ⟨[(0, .old 0)], [(0, rowL l')], .tup [], rfl, ⟨?_, trivial⟩, trivial, ?_⟩
  · show blkR _ _ (M' 0) _
    rw [hM]; exact rfl
  · conv => whnf
    exact ⟨rfl, l', rfl, hp, hs⟩

end Go.Proofs.Ytihligeggkpolaa
