/-
  Sorting a list of lists of numbers: at most twelve.
-/
import Derived.Test.YtihligeggkpolaaPlA
namespace Go.Proofs.Ytihligeggkpolaa
set_option maxRecDepth 10000

def rowL (l : List (List Int)) : Blk := .row 29 [] encL l
theorem rowL_eq {l l' : List (List Int)} (h : l = l') : rowL l = rowL l' := by rw [h]
theorem mid_end {α : Type} (S : List α) (x : α) (r : List α) : mid S S.length x r = S ++ x :: r := by simp [mid]
theorem mid_app {α : Type} (S : List α) (j : Nat) (x : α) (r : List α) : mid S j x r = mid S j x [] ++ r := by simp [mid]

theorem insSort (l : List (List Int)) (hn : l.length ≤ 4611686018427387904) (hb : ∀ a ∈ l, a.length ≤ 4611686018427387904) :
    Spec Try.prog 37 [.row 0 l.length 1, .int .i64 0, .int .i64 (l.length : Int), .fn 27 []] (Mem.ofL [(0, rowL l)])
      (fun u M' => u = .tup [] ∧ ∃ l', M' 0 = some (rowL l') ∧ l'.Perm l ∧ Srt cmpL l') := by
  refine Spec.intro tt_ok mx_ok [(0, rowL l)] Try.func37 rfl (by decide) ?_
  conv => whnf
  repeat' (first
      | (refine needI (by first | omega | (dsimp only; omega)) ?_; conv => whnf)
      | (refine arI trivial (by omega) ?_; conv => whnf)
      | (refine arU trivial (by omega) ?_; conv => whnf)
      | (refine arB trivial (by omega) ?_; conv => whnf)
      | (refine drawI (by decide +kernel) ?_; conv => whnf)
      | (refine drawR (by decide +kernel) ?_; conv => whnf)
      | (refine boxP rfl ?_; conv => whnf)
      | (refine appI _ rfl (by first | omega | (dsimp only; omega) | (simp only [List.length_cons, List.length_nil, List.length_append]; omega)) ?_; conv => whnf)
      | (refine rowSetI _ rfl ?_; conv => whnf)
      | (refine cmpT (by omega) ?_; conv => whnf)
      | (refine cmpF (by omega) ?_; conv => whnf)
      | (refine cmpI (fun _ => ?_) (fun _ => ?_) <;> conv => whnf))
  cases l with
  | nil =>
    refine WPc.loop (fun _ : Nat => True) (fun _ => ((.row 0 0 1) :: .top :: (.int .i64 0) :: .top :: .top :: .top :: .top :: .top :: (.int .i64 1) :: T 44)) (fun _ => Mem.ofL [(0, rowL [])]) (fun _ => 0) 0 trivial (Sub.by_ [(0, .old 0)] _ 400 rfl ⟨rfl, trivial⟩ (by repeat' (first | exact True.intro | exact rfl | (refine And.intro ?_ ?_) | ((conv => whnf); omega) | ((conv => whnf); simp only [List.length_append, List.length_cons, List.length_nil]; done) | ((conv => whnf); simp only [List.length_append, List.length_cons, List.length_nil]; omega)))) ?_
    intro k _
    refine codeK_ok tt_ok mx_ok _ _ _ _ ?_
    conv => whnf
    repeat' (first
        | (refine needI (by first | omega | (dsimp only; omega)) ?_; conv => whnf)
        | (refine arI trivial (by omega) ?_; conv => whnf)
        | (refine arU trivial (by omega) ?_; conv => whnf)
        | (refine arB trivial (by omega) ?_; conv => whnf)
        | (refine drawI (by decide +kernel) ?_; conv => whnf)
        | (refine drawR (by decide +kernel) ?_; conv => whnf)
        | (refine boxP rfl ?_; conv => whnf)
        | (refine appI _ rfl (by first | omega | (dsimp only; omega) | (simp only [List.length_cons, List.length_nil, List.length_append]; omega)) ?_; conv => whnf)
        | (refine rowSetI _ rfl ?_; conv => whnf)
        | (refine cmpT (by omega) ?_; conv => whnf)
        | (refine cmpF (by omega) ?_; conv => whnf)
        | (refine cmpI (fun _ => ?_) (fun _ => ?_) <;> conv => whnf))
    exact ⟨rfl, [], rfl, List.Perm.refl _, List.Pairwise.nil⟩
  | cons x0 l0 =>
    refine WPc.loop2 (fun S rest : List (List Int) => (S ++ rest).Perm (x0 :: l0) ∧ Srt cmpL S ∧ 0 < S.length) (fun S _ => ((.row 0 (x0 :: l0).length 1) :: (.int .i64 0) :: (.int .i64 ((x0 :: l0).length : Int)) :: (.fn 27 []) :: .top :: .top :: .top :: .top :: (.int .i64 (S.length : Int)) :: T 44)) (fun S rest => Mem.ofL [(0, rowL (S ++ rest))]) (fun _ rest => rest.length) [x0] l0 ⟨List.Perm.refl _, List.pairwise_singleton _ _, by simp⟩ (Sub.by_ [(0, .old 0)] _ 400 rfl ⟨rfl, trivial⟩ (by repeat' (first | exact True.intro | exact rfl | (refine And.intro ?_ ?_) | ((conv => whnf); omega) | ((conv => whnf); simp only [List.length_append, List.length_cons, List.length_nil]; done) | ((conv => whnf); simp only [List.length_append, List.length_cons, List.length_nil]; omega)))) ?_
    rintro S rest ⟨hp, hs, h0⟩
    have hlen : S.length + rest.length = (x0 :: l0).length := by have := hp.length_eq; simpa using this
    refine codeK_ok tt_ok mx_ok _ _ _ _ ?_
    conv => whnf
    cases rest with
    | nil =>
      simp only [List.length_nil] at hlen
      repeat' (first
          | (refine needI (by first | omega | (dsimp only; omega)) ?_; conv => whnf)
          | (refine arI trivial (by omega) ?_; conv => whnf)
          | (refine arU trivial (by omega) ?_; conv => whnf)
          | (refine arB trivial (by omega) ?_; conv => whnf)
          | (refine drawI (by decide +kernel) ?_; conv => whnf)
          | (refine drawR (by decide +kernel) ?_; conv => whnf)
          | (refine boxP rfl ?_; conv => whnf)
          | (refine appI _ rfl (by first | omega | (dsimp only; omega) | (simp only [List.length_cons, List.length_nil, List.length_append]; omega)) ?_; conv => whnf)
          | (refine rowSetI _ rfl ?_; conv => whnf)
          | (refine cmpT (by omega) ?_; conv => whnf)
          | (refine cmpF (by omega) ?_; conv => whnf)
          | (refine cmpI (fun _ => ?_) (fun _ => ?_) <;> conv => whnf))
      rw [List.append_nil] at hp
      exact ⟨rfl, S, by rw [List.append_nil]; rfl, hp, hs⟩
    | cons x r =>
      have hbx : ∀ a ∈ S ++ x :: r, a.length ≤ 4611686018427387904 := fun a ha => hb a (hp.mem_iff.1 ha)
      generalize hnn : (x0 :: l0).length = n at hlen hn ⊢
      simp only [List.length_cons] at hlen
      refine cmpT (by omega) ?_
      conv => whnf
      refine WPc.loop (fun j : Nat => j ≤ S.length ∧ ∀ s ∈ S.drop j, cmpL x s < 0) (fun j => ((.row 0 n 1) :: (.int .i64 0) :: (.int .i64 (n : Int)) :: (.fn 27 []) :: .top :: .top :: .top :: .top :: (.int .i64 (S.length : Int)) :: (.int .i64 (j : Int)) :: T 43)) (fun j => Mem.ofL [(0, rowL (mid S j x r))]) (fun j => j) S.length ⟨Nat.le_refl _, by simp⟩ (Sub.by_ [(0, .old 0)] _ 400 rfl ⟨rowL_eq (mid_end S x r).symm, trivial⟩ (by repeat' (first | exact True.intro | exact rfl | (refine And.intro ?_ ?_) | ((conv => whnf); omega) | ((conv => whnf); simp only [List.length_append, List.length_cons, List.length_nil]; done) | ((conv => whnf); simp only [List.length_append, List.length_cons, List.length_nil]; omega)))) ?_
      rintro j ⟨hj, hgt⟩
      have hml : (mid S j x r).length = n := by rw [mid_length]; omega
      refine codeK_ok tt_ok mx_ok _ _ _ _ ?_
      conv => whnf
      refine drawI (by kernel_rfl) ?_
      conv => whnf
      have hml2 : (mid S j x []).length = S.length + 1 := by rw [mid_length]; rfl
      have hp2 : (mid S j x [] ++ r).Perm (x0 :: l0) := by rw [← mid_app]; exact (mid_perm S j x r).trans hp
      have hx : ∀ (h : Srt cmpL (mid S j x [])), (mid S j x [] ++ r).Perm (x0 :: l0) ∧ Srt cmpL (mid S j x []) ∧ 0 < (mid S j x []).length := fun h => ⟨hp2, h, by omega⟩
      refine cmpI (fun h1 => ?_) (fun h1 => ?_) <;> conv => whnf
      · repeat' (first
            | (refine needI (by first | omega | (dsimp only; omega)) ?_; conv => whnf)
            | (refine arI trivial (by omega) ?_; conv => whnf)
            | (refine arU trivial (by omega) ?_; conv => whnf)
            | (refine arB trivial (by omega) ?_; conv => whnf)
            | (refine drawI (by decide +kernel) ?_; conv => whnf)
            | (refine drawR (by decide +kernel) ?_; conv => whnf)
            | (refine boxP rfl ?_; conv => whnf)
            | (refine appI _ rfl (by first | omega | (dsimp only; omega) | (simp only [List.length_cons, List.length_nil, List.length_append]; omega)) ?_; conv => whnf)
            | (refine rowSetI _ rfl ?_; conv => whnf)
            | (refine cmpT (by omega) ?_; conv => whnf)
            | (refine cmpF (by omega) ?_; conv => whnf)
            | (refine cmpI (fun _ => ?_) (fun _ => ?_) <;> conv => whnf))
        have e1 := mid_at (j := j) x r [] hj
        have e2 := mid_before (j := j) x r [] (by omega) hj
        have e3 : ((j : Int) - 1).toNat = j - 1 := by omega
        simp only [Int.toNat_natCast, e3, e1, e2]
        (refine callPI 5 (unfoldCompareInts x S[j - 1] (hbx x (by simp))) rfl ⟨_, rfl⟩ ?_; rintro _ rfl; conv => whnf)
        repeat' (first
            | (refine needI (by first | omega | (dsimp only; omega)) ?_; conv => whnf)
            | (refine arI trivial (by omega) ?_; conv => whnf)
            | (refine arU trivial (by omega) ?_; conv => whnf)
            | (refine arB trivial (by omega) ?_; conv => whnf)
            | (refine drawI (by decide +kernel) ?_; conv => whnf)
            | (refine drawR (by decide +kernel) ?_; conv => whnf)
            | (refine boxP rfl ?_; conv => whnf)
            | (refine appI _ rfl (by first | omega | (dsimp only; omega) | (simp only [List.length_cons, List.length_nil, List.length_append]; omega)) ?_; conv => whnf)
            | (refine rowSetI _ rfl ?_; conv => whnf)
            | (refine cmpT (by omega) ?_; conv => whnf)
            | (refine cmpF (by omega) ?_; conv => whnf)
            | (refine cmpI (fun _ => ?_) (fun _ => ?_) <;> conv => whnf))
        · rename_i hc
          refine ⟨j - 1, Sub.by_ [(0, .old 0)] _ 400 rfl ⟨rowL_eq ?_, trivial⟩ (by repeat' (first | exact True.intro | exact rfl | (refine And.intro ?_ ?_) | ((conv => whnf); omega) | ((conv => whnf); simp only [List.length_append, List.length_cons, List.length_nil]; done) | ((conv => whnf); simp only [List.length_append, List.length_cons, List.length_nil]; omega))), ⟨by omega, ?_⟩, Nat.sub_lt (by omega) (by omega)⟩
          · simp only [Int.toNat_natCast, e3, e1, e2]
            exact mid_swap x r (by omega) hj
          · have : S.drop (j - 1) = S[j - 1] :: S.drop j := by
              rw [List.drop_eq_getElem_cons (by omega)]
              congr 2; omega
            rw [this]
            intro s hs'
            rcases List.mem_cons.1 hs' with rfl | hs'
            · exact hc
            · exact hgt s hs'
        · rename_i hc
          exact ⟨mid S j x [], r, Sub.by_ [(0, .old 0)] _ 400 rfl ⟨rowL_eq (mid_app S j x r), trivial⟩ (by repeat' (first | exact True.intro | exact rfl | (refine And.intro ?_ ?_) | ((conv => whnf); omega) | ((conv => whnf); simp only [List.length_append, List.length_cons, List.length_nil]; done) | ((conv => whnf); simp only [List.length_append, List.length_cons, List.length_nil]; omega))), hx (mid_sorted cmpL_ord hs hj x hgt fun _ => hc), Nat.lt_succ_self _⟩
      · repeat' (first
            | (refine needI (by first | omega | (dsimp only; omega)) ?_; conv => whnf)
            | (refine arI trivial (by omega) ?_; conv => whnf)
            | (refine arU trivial (by omega) ?_; conv => whnf)
            | (refine arB trivial (by omega) ?_; conv => whnf)
            | (refine drawI (by decide +kernel) ?_; conv => whnf)
            | (refine drawR (by decide +kernel) ?_; conv => whnf)
            | (refine boxP rfl ?_; conv => whnf)
            | (refine appI _ rfl (by first | omega | (dsimp only; omega) | (simp only [List.length_cons, List.length_nil, List.length_append]; omega)) ?_; conv => whnf)
            | (refine rowSetI _ rfl ?_; conv => whnf)
            | (refine cmpT (by omega) ?_; conv => whnf)
            | (refine cmpF (by omega) ?_; conv => whnf)
            | (refine cmpI (fun _ => ?_) (fun _ => ?_) <;> conv => whnf))
        exact ⟨mid S j x [], r, Sub.by_ [(0, .old 0)] _ 400 rfl ⟨rowL_eq (mid_app S j x r), trivial⟩ (by repeat' (first | exact True.intro | exact rfl | (refine And.intro ?_ ?_) | ((conv => whnf); omega) | ((conv => whnf); simp only [List.length_append, List.length_cons, List.length_nil]; done) | ((conv => whnf); simp only [List.length_append, List.length_cons, List.length_nil]; omega))), hx (mid_sorted cmpL_ord hs hj x hgt fun h => absurd h (by omega)), Nat.lt_succ_self _⟩

end Go.Proofs.Ytihligeggkpolaa
