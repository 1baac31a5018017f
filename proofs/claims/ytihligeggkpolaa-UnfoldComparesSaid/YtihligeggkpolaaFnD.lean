/-
  CompactFunc on a list without equal neighbours; tidy on short lists.
-/
import Derived.Test.YtihligeggkpolaaFnC
namespace Go.Proofs.Ytihligeggkpolaa
set_option maxRecDepth 10000

theorem tidyEq (xs ys : List Int) (hx : xs.length ≤ 4611686018427387904) : PSpec Try.prog 33 [.sl 0 encI xs, .sl 0 encI ys, .pd [.fn 27 []]] (fun u => u = .bool (decide (cmpL xs ys = 0))) := by
  refine PSpec.intro tt_ok mx_ok Try.func33 rfl (by decide) ?_; (conv => whnf)
  (refine Spec.of_pure (n := 5) (unfoldCompareInts xs ys hx) rfl ?_; rintro _ rfl; conv => whnf)
  repeat' (first
      | (refine needI (by first | omega | (dsimp only; omega)) ?_; conv => whnf)
      | (refine arI trivial (by omega) ?_; conv => whnf)
      | (refine arU trivial (by omega) ?_; conv => whnf)
      | (refine arB trivial (by omega) ?_; conv => whnf)
      | (refine drawI (by decide +kernel) ?_; conv => whnf)
      | (refine drawR (by decide +kernel) ?_; conv => whnf)
      | (refine boxP rfl ?_; conv => whnf)
      | (refine appI _ rfl (by first | omega | (dsimp only; omega) | (simp only [List.length_cons, List.length_nil, List.length_append]; omega)) ?_; conv => whnf)
      | (refine rowSetI _ rfl ?_; conv => whnf)
      | (refine cmpT (by omega) ?_; conv => whnf)
      | (refine cmpF (by omega) ?_; conv => whnf)
      | (refine cmpI (fun _ => ?_) (fun _ => ?_) <;> conv => whnf))
  · rename_i h; exact ⟨av_bool (by simpa using h), rfl⟩
  · rename_i h; exact ⟨av_bool (by simpa using h), rfl⟩

theorem compactSame (l : List (List Int)) (hn : l.length ≤ 4611686018427387904) (hb : ∀ a ∈ l, a.length ≤ 4611686018427387904) (hd : ∀ i, i + 1 < l.length → cmpL (l.getD (i + 1) []) (l.getD i []) ≠ 0) :
    Spec Try.prog 32 [.row 0 l.length 1, .fn 33 [.pd [.fn 27 []]]] (Mem.ofL [(0, rowL l)])
      (fun u M' => u = .row 0 l.length 1 ∧ M' 0 = some (rowL l)) := by
  refine Spec.intro tt_ok mx_ok [(0, rowL l)] Try.func32 rfl (by decide) ?_
  conv => whnf
  repeat' (first
      | (refine needI (by first | omega | (dsimp only; omega)) ?_; conv => whnf)
      | (refine arI trivial (by omega) ?_; conv => whnf)
      | (refine arU trivial (by omega) ?_; conv => whnf)
      | (refine arB trivial (by omega) ?_; conv => whnf)
      | (refine drawI (by decide +kernel) ?_; conv => whnf)
      | (refine drawR (by decide +kernel) ?_; conv => whnf)
      | (refine boxP rfl ?_; conv => whnf)
      | (refine appI _ rfl (by first | omega | (dsimp only; omega) | (simp only [List.length_cons, List.length_nil, List.length_append]; omega)) ?_; conv => whnf)
      | (refine rowSetI _ rfl ?_; conv => whnf)
      | (refine cmpT (by omega) ?_; conv => whnf)
      | (refine cmpF (by omega) ?_; conv => whnf)
      | (refine cmpI (fun _ => ?_) (fun _ => ?_) <;> conv => whnf))
  · exact ⟨rfl, rfl⟩
  · refine WPc.loop (fun i : Nat => 1 ≤ i ∧ i ≤ l.length) (fun i => ((.row 0 l.length 1) :: (.fn 33 [.pd [.fn 27 []]]) :: .top :: .top :: .top :: (.int .i64 (i : Int)) :: T 60)) (fun _ => Mem.ofL [(0, rowL l)]) (fun i => l.length - i) 1 ⟨by omega, by omega⟩ (Sub.by_ [(0, .old 0)] _ 400 rfl ⟨rfl, trivial⟩ (by repeat' (first | exact True.intro | exact rfl | (refine And.intro ?_ ?_) | ((conv => whnf); omega) | ((conv => whnf); simp only [List.length_append, List.length_cons, List.length_nil]; done) | ((conv => whnf); simp only [List.length_append, List.length_cons, List.length_nil]; omega)))) ?_
    rintro i ⟨h1, h2⟩
    refine codeK_ok tt_ok mx_ok _ _ _ _ ?_
    conv => whnf
    repeat' (first
        | (refine needI (by first | omega | (dsimp only; omega)) ?_; conv => whnf)
        | (refine arI trivial (by omega) ?_; conv => whnf)
        | (refine arU trivial (by omega) ?_; conv => whnf)
        | (refine arB trivial (by omega) ?_; conv => whnf)
        | (refine drawI (by decide +kernel) ?_; conv => whnf)
        | (refine drawR (by decide +kernel) ?_; conv => whnf)
        | (refine boxP rfl ?_; conv => whnf)
        | (refine appI _ rfl (by first | omega | (dsimp only; omega) | (simp only [List.length_cons, List.length_nil, List.length_append]; omega)) ?_; conv => whnf)
        | (refine rowSetI _ rfl ?_; conv => whnf)
        | (refine cmpT (by omega) ?_; conv => whnf)
        | (refine cmpF (by omega) ?_; conv => whnf)
        | (refine cmpI (fun _ => ?_) (fun _ => ?_) <;> conv => whnf))
    · have e3 : ((i : Int) - 1).toNat = i - 1 := by omega
      have hh := hd (i - 1) (by omega)
      rw [show i - 1 + 1 = i from by omega] at hh
      have hi : l.getD i [] ∈ l := List.mem_of_getElem? (getD_of_lt (d := []) (l := l) (n := i) (by omega))
      simp only [Int.toNat_natCast, e3]
      refine callPI 5 (tidyEq (l.getD i []) (l.getD (i - 1) []) (hb _ hi)) rfl ⟨_, rfl⟩ ?_
      rintro _ rfl
      rw [decide_eq_false hh]
      conv => whnf
      repeat' (first
          | (refine needI (by first | omega | (dsimp only; omega)) ?_; conv => whnf)
          | (refine arI trivial (by omega) ?_; conv => whnf)
          | (refine arU trivial (by omega) ?_; conv => whnf)
          | (refine arB trivial (by omega) ?_; conv => whnf)
          | (refine drawI (by decide +kernel) ?_; conv => whnf)
          | (refine drawR (by decide +kernel) ?_; conv => whnf)
          | (refine boxP rfl ?_; conv => whnf)
          | (refine appI _ rfl (by first | omega | (dsimp only; omega) | (simp only [List.length_cons, List.length_nil, List.length_append]; omega)) ?_; conv => whnf)
          | (refine rowSetI _ rfl ?_; conv => whnf)
          | (refine cmpT (by omega) ?_; conv => whnf)
          | (refine cmpF (by omega) ?_; conv => whnf)
          | (refine cmpI (fun _ => ?_) (fun _ => ?_) <;> conv => whnf))
      exact ⟨i + 1, Sub.by_ [(0, .old 0)] _ 400 rfl ⟨rfl, trivial⟩ (by repeat' (first | exact True.intro | exact rfl | (refine And.intro ?_ ?_) | ((conv => whnf); omega) | ((conv => whnf); simp only [List.length_append, List.length_cons, List.length_nil]; done) | ((conv => whnf); simp only [List.length_append, List.length_cons, List.length_nil]; omega))), ⟨by omega, by omega⟩, Nat.sub_lt_sub_left (by omega) (by omega)⟩
    · exact ⟨rfl, rfl⟩

/-- a list in ascending order without equal elements -/
def Asc (l : List (List Int)) : Prop := l.Pairwise fun a b => cmpL a b < 0

theorem asc_of {l l' : List (List Int)} (hp : l'.Perm l) (hs : Srt cmpL l') (hd : l.Nodup) : Asc l' := by
  have hd' : l'.Nodup := hp.nodup_iff.2 hd
  unfold Asc
  unfold Srt at hs
  refine (hs.and hd').imp fun {a b} h => ?_
  have hne : cmpL a b ≠ 0 := fun e => h.2 (cmpL_eq e)
  have := h.1
  omega
theorem asc_adj {l : List (List Int)} (h : Asc l) (i : Nat) (hi : i + 1 < l.length) : cmpL (l.getD (i + 1) []) (l.getD i []) ≠ 0 := by
  have h1 := List.pairwise_iff_getElem.1 h i (i + 1) (by omega) hi (by omega)
  have e1 : l.getD (i + 1) [] = l[i + 1] := by simp [List.getD, hi]
  have e2 : l.getD i [] = l[i] := by simp [List.getD, show i < l.length from by omega]
  rw [e1, e2]
  have := cmpL_ord.anti _ _ h1
  omega

theorem tidyL (l : List (List Int)) (hn : l.length ≤ 12) (hb : ∀ a ∈ l, a.length ≤ 4611686018427387904) (hd : l.Nodup) :
    PSpec Try.prog 26 [.sl [] encL l, .fn 27 []] (fun u => ∃ l', u = .sl [] encL l' ∧ l'.Perm l ∧ Asc l') := by
  refine PSpec.intro tt_ok mx_ok Try.func26 rfl (by decide) ?_; (conv => whnf)
  repeat' (first
      | (refine needI (by first | omega | (dsimp only; omega)) ?_; conv => whnf)
      | (refine arI trivial (by omega) ?_; conv => whnf)
      | (refine arU trivial (by omega) ?_; conv => whnf)
      | (refine arB trivial (by omega) ?_; conv => whnf)
      | (refine drawI (by decide +kernel) ?_; conv => whnf)
      | (refine drawR (by decide +kernel) ?_; conv => whnf)
      | (refine boxP rfl ?_; conv => whnf)
      | (refine appI _ rfl (by first | omega | (dsimp only; omega) | (simp only [List.length_cons, List.length_nil, List.length_append]; omega)) ?_; conv => whnf)
      | (refine rowSetI _ rfl ?_; conv => whnf)
      | (refine cmpT (by omega) ?_; conv => whnf)
      | (refine cmpF (by omega) ?_; conv => whnf)
      | (refine cmpI (fun _ => ?_) (fun _ => ?_) <;> conv => whnf))
  refine Spec.call [(0, .old 7)] [(0, rowL l)] 100 rfl ⟨rfl, trivial⟩ (by repeat' (first | exact True.intro | exact rfl | (refine And.intro ?_ ?_) | ((conv => whnf); omega) | ((conv => whnf); simp only [List.length_append, List.length_cons, List.length_nil]; done) | ((conv => whnf); simp only [List.length_append, List.length_cons, List.length_nil]; omega))) (sortFunc l hn hb) ?_
  rintro u M' ⟨rfl, l', hM, hp, hs⟩
  have hlen := hp.length_eq
  refine ⟨[(7, .old 0)], [(7, rowL l')], .tup [], rfl, ⟨?_, trivial⟩, trivial, ?_⟩
  · show blkR _ _ (M' 0) _
    rw [hM]; exact rfl
  have ha := asc_of hp hs hd
  rw [← hlen]
  conv => whnf
  refine Spec.call [(0, .old 7)] [(0, rowL l')] 100 rfl ⟨rfl, trivial⟩ (by repeat' (first | exact True.intro | exact rfl | (refine And.intro ?_ ?_) | ((conv => whnf); omega) | ((conv => whnf); simp only [List.length_append, List.length_cons, List.length_nil]; done) | ((conv => whnf); simp only [List.length_append, List.length_cons, List.length_nil]; omega))) (compactSame l' (by omega) (fun a h => hb a (hp.mem_iff.1 h)) (asc_adj ha)) ?_
  rintro u M' ⟨rfl, hM⟩
  refine ⟨[(7, .old 0)], [(7, rowL l')], .row 7 l'.length 1, rfl, ⟨?_, trivial⟩, rfl, ?_⟩
  · show blkR _ _ (M' 0) _
    rw [hM]; exact rfl
  conv => whnf
  exact ⟨⟨l', rfl, hp, ha⟩, rfl⟩

end Go.Proofs.Ytihligeggkpolaa
