/-
  Contracts of small functions on lists of numbers.
-/
import Derived.Test.YtihligeggkpolaaTab
namespace Go.Proofs.Ytihligeggkpolaa

def T (n : Nat) : List AV := List.replicate n .top
def encL (l : List Int) : List AV := [.sl 0 encI l]

def cmpL : List Int → List Int → Int
  | [], [] => 0
  | [], _ :: _ => -1
  | _ :: _, [] => 1
  | x :: xs, y :: ys => if x < y then -1 else if y < x then 1 else cmpL xs ys
theorem cmpL_drop {xs ys : List Int} {k : Nat} (h1 : k < xs.length) (h2 : k < ys.length) : cmpL (xs.drop k) (ys.drop k) = if xs.getD k 0 < ys.getD k 0 then -1 else if ys.getD k 0 < xs.getD k 0 then 1 else cmpL (xs.drop (k + 1)) (ys.drop (k + 1)) := by
  rw [List.drop_eq_getElem_cons h1, List.drop_eq_getElem_cons h2]
  simp [cmpL, List.getD, h1, h2]
theorem cmpL_drop_lt {xs ys : List Int} {k : Nat} (h1 : ¬ k < xs.length) (h2 : k < ys.length) : cmpL (xs.drop k) (ys.drop k) = -1 := by
  rw [List.drop_eq_nil_of_le (by omega), List.drop_eq_getElem_cons h2]; rfl
theorem cmpL_drop_gt {xs ys : List Int} {k : Nat} (h1 : k < xs.length) (h2 : ¬ k < ys.length) : cmpL (xs.drop k) (ys.drop k) = 1 := by
  rw [(List.drop_eq_nil_of_le (by omega) : ys.drop k = []), List.drop_eq_getElem_cons h1]; rfl
theorem cmpL_drop_eq {xs ys : List Int} {k : Nat} (h1 : ¬ k < xs.length) (h2 : ¬ k < ys.length) : cmpL (xs.drop k) (ys.drop k) = 0 := by
  rw [List.drop_eq_nil_of_le (by omega), (List.drop_eq_nil_of_le (by omega) : ys.drop k = [])]; rfl
def cmpZ (x y : Int) : Int := if x < y then -1 else if y < x then 1 else 0
theorem cmpL_z {xs ys : List Int} {k : Nat} (h1 : k < xs.length) (h2 : k < ys.length) : cmpL (xs.drop k) (ys.drop k) = if cmpZ (xs.getD k 0) (ys.getD k 0) ≠ 0 then cmpZ (xs.getD k 0) (ys.getD k 0) else cmpL (xs.drop (k + 1)) (ys.drop (k + 1)) := by
  rw [cmpL_drop h1 h2]
  unfold cmpZ
  by_cases a : xs.getD k 0 < ys.getD k 0
  · rw [if_pos a, if_pos a, if_pos (by decide)]
  · by_cases b : ys.getD k 0 < xs.getD k 0
    · rw [if_neg a, if_pos b, if_neg a, if_pos b, if_pos (by decide)]
    · rw [if_neg a, if_neg b, if_neg a, if_neg b, if_neg (by decide)]
theorem av_int {a b : Int} (h : a = b) : AV.int .i64 a = .int .i64 b := by rw [h]
theorem av_bool {a b : Bool} (h : a = b) : AV.bool a = .bool b := by rw [h]

set_option maxRecDepth 10000
theorem refCompareInts (xs ys : List Int) (hx : xs.length ≤ 4611686018427387904) : PSpec Try.prog 21 [.sl 0 encI xs, .sl 0 encI ys] (fun u => u = .int .i64 (cmpL xs ys)) := by
  refine PSpec.intro tt_ok mx_ok Try.func21 rfl (by decide) ?_; (conv => whnf)
  refine WPc.loop (fun k : Nat => k ≤ xs.length ∧ k ≤ ys.length ∧ cmpL xs ys = cmpL (xs.drop k) (ys.drop k)) (fun k => .sl 0 encI xs :: .sl 0 encI ys :: .top :: .top :: .top :: .int .i64 (k : Int) :: T 40) (fun _ => Mem.ofL []) (fun k => xs.length - k) 0 ⟨by omega, by omega, by simp⟩ (Sub.by_ [] [] 100 rfl trivial ⟨rfl, rfl, rfl, trivial⟩) ?_
  rintro k ⟨hk1, hk2, hk3⟩
  refine codeK_ok tt_ok mx_ok _ _ _ _ ?_
  conv => whnf
  refine cmpI (fun h1 => ?_) (fun h1 => ?_) <;> conv => whnf
  · refine cmpI (fun h2 => ?_) (fun h2 => ?_) <;> conv => whnf
    · have hd := cmpL_drop (xs := xs) (ys := ys) (k := k) (by omega) (by omega)
      rw [hd] at hk3
      repeat' (first
          | (refine needI (by first | omega | (dsimp only; omega)) ?_; conv => whnf)
          | (refine arI trivial (by omega) ?_; conv => whnf)
          | (refine arU trivial (by omega) ?_; conv => whnf)
          | (refine arB trivial (by omega) ?_; conv => whnf)
          | (refine drawI (by decide +kernel) ?_; conv => whnf)
          | (refine drawR (by decide +kernel) ?_; conv => whnf)
          | (refine boxP rfl ?_; conv => whnf)
          | (refine appI _ rfl (by first | omega | (dsimp only; omega) | (simp only [List.length_cons, List.length_nil, List.length_append]; omega)) ?_; conv => whnf)
          | (refine rowSetI _ rfl ?_; conv => whnf)
          | (refine cmpT (by omega) ?_; conv => whnf)
          | (refine cmpF (by omega) ?_; conv => whnf)
          | (refine cmpI (fun _ => ?_) (fun _ => ?_) <;> conv => whnf))
      · rename_i h
        refine ⟨av_int ?_, rfl⟩
        rw [hk3, if_pos (by simpa using h)]
      · rename_i h h'
        refine ⟨av_int ?_, rfl⟩
        rw [hk3, if_neg (by simpa using h), if_pos (by simpa using h')]
      · rename_i h h'
        refine ⟨k + 1, Sub.by_ [] [] 100 rfl trivial ⟨rfl, rfl, rfl, trivial⟩, ⟨by omega, by omega, ?_⟩, Nat.sub_lt_sub_left (by omega) (by omega)⟩
        rw [hk3, if_neg (by simpa using h), if_neg (by simpa using h')]
    · rw [cmpL_drop_gt (by omega) (by omega)] at hk3
      repeat' (first
          | (refine needI (by first | omega | (dsimp only; omega)) ?_; conv => whnf)
          | (refine arI trivial (by omega) ?_; conv => whnf)
          | (refine arU trivial (by omega) ?_; conv => whnf)
          | (refine arB trivial (by omega) ?_; conv => whnf)
          | (refine drawI (by decide +kernel) ?_; conv => whnf)
          | (refine drawR (by decide +kernel) ?_; conv => whnf)
          | (refine boxP rfl ?_; conv => whnf)
          | (refine appI _ rfl (by first | omega | (dsimp only; omega) | (simp only [List.length_cons, List.length_nil, List.length_append]; omega)) ?_; conv => whnf)
          | (refine rowSetI _ rfl ?_; conv => whnf)
          | (refine cmpT (by omega) ?_; conv => whnf)
          | (refine cmpF (by omega) ?_; conv => whnf)
          | (refine cmpI (fun _ => ?_) (fun _ => ?_) <;> conv => whnf))
      exact ⟨av_int hk3.symm, rfl⟩
  · by_cases h2 : k < ys.length
    · rw [cmpL_drop_lt (by omega) h2] at hk3
      repeat' (first
          | (refine needI (by first | omega | (dsimp only; omega)) ?_; conv => whnf)
          | (refine arI trivial (by omega) ?_; conv => whnf)
          | (refine arU trivial (by omega) ?_; conv => whnf)
          | (refine arB trivial (by omega) ?_; conv => whnf)
          | (refine drawI (by decide +kernel) ?_; conv => whnf)
          | (refine drawR (by decide +kernel) ?_; conv => whnf)
          | (refine boxP rfl ?_; conv => whnf)
          | (refine appI _ rfl (by first | omega | (dsimp only; omega) | (simp only [List.length_cons, List.length_nil, List.length_append]; omega)) ?_; conv => whnf)
          | (refine rowSetI _ rfl ?_; conv => whnf)
          | (refine cmpT (by omega) ?_; conv => whnf)
          | (refine cmpF (by omega) ?_; conv => whnf)
          | (refine cmpI (fun _ => ?_) (fun _ => ?_) <;> conv => whnf))
      exact ⟨av_int hk3.symm, rfl⟩
    · rw [cmpL_drop_eq (by omega) h2] at hk3
      repeat' (first
          | (refine needI (by first | omega | (dsimp only; omega)) ?_; conv => whnf)
          | (refine arI trivial (by omega) ?_; conv => whnf)
          | (refine arU trivial (by omega) ?_; conv => whnf)
          | (refine arB trivial (by omega) ?_; conv => whnf)
          | (refine drawI (by decide +kernel) ?_; conv => whnf)
          | (refine drawR (by decide +kernel) ?_; conv => whnf)
          | (refine boxP rfl ?_; conv => whnf)
          | (refine appI _ rfl (by first | omega | (dsimp only; omega) | (simp only [List.length_cons, List.length_nil, List.length_append]; omega)) ?_; conv => whnf)
          | (refine rowSetI _ rfl ?_; conv => whnf)
          | (refine cmpT (by omega) ?_; conv => whnf)
          | (refine cmpF (by omega) ?_; conv => whnf)
          | (refine cmpI (fun _ => ?_) (fun _ => ?_) <;> conv => whnf))
      exact ⟨av_int hk3.symm, rfl⟩

theorem refSameInts (xs ys : List Int) (hx : xs.length ≤ 4611686018427387904) : PSpec Try.prog 12 [.sl 0 encI xs, .sl 0 encI ys] (fun u => u = .bool (decide (cmpL xs ys = 0))) := by
  refine PSpec.intro tt_ok mx_ok Try.func12 rfl (by decide) ?_; (conv => whnf)
  (refine Spec.of_pure (n := 5) (refCompareInts xs ys hx) rfl ?_; rintro _ rfl; conv => whnf)
  repeat' (first
      | (refine needI (by first | omega | (dsimp only; omega)) ?_; conv => whnf)
      | (refine arI trivial (by omega) ?_; conv => whnf)
      | (refine arU trivial (by omega) ?_; conv => whnf)
      | (refine arB trivial (by omega) ?_; conv => whnf)
      | (refine drawI (by decide +kernel) ?_; conv => whnf)
      | (refine drawR (by decide +kernel) ?_; conv => whnf)
      | (refine boxP rfl ?_; conv => whnf)
      | (refine appI _ rfl (by first | omega | (dsimp only; omega) | (simp only [List.length_cons, List.length_nil, List.length_append]; omega)) ?_; conv => whnf)
      | (refine rowSetI _ rfl ?_; conv => whnf)
      | (refine cmpT (by omega) ?_; conv => whnf)
      | (refine cmpF (by omega) ?_; conv => whnf)
      | (refine cmpI (fun _ => ?_) (fun _ => ?_) <;> conv => whnf))
  · rename_i h; exact ⟨av_bool (by simpa using h), rfl⟩
  · rename_i h; exact ⟨av_bool (by simpa using h), rfl⟩

theorem cmpIsNaN (x : Int) : PSpec Try.prog 30 [.int .i64 x] (fun u => u = .bool false) := by
  refine PSpec.intro tt_ok mx_ok Try.func30 rfl (by decide) ?_; (conv => whnf)
  repeat' (first
      | (refine needI (by first | omega | (dsimp only; omega)) ?_; conv => whnf)
      | (refine arI trivial (by omega) ?_; conv => whnf)
      | (refine arU trivial (by omega) ?_; conv => whnf)
      | (refine arB trivial (by omega) ?_; conv => whnf)
      | (refine drawI (by decide +kernel) ?_; conv => whnf)
      | (refine drawR (by decide +kernel) ?_; conv => whnf)
      | (refine boxP rfl ?_; conv => whnf)
      | (refine appI _ rfl (by first | omega | (dsimp only; omega) | (simp only [List.length_cons, List.length_nil, List.length_append]; omega)) ?_; conv => whnf)
      | (refine rowSetI _ rfl ?_; conv => whnf)
      | (refine cmpT (by omega) ?_; conv => whnf)
      | (refine cmpF (by omega) ?_; conv => whnf)
      | (refine cmpI (fun _ => ?_) (fun _ => ?_) <;> conv => whnf))
  exact ⟨rfl, rfl⟩

theorem cmpCompare (x y : Int) : PSpec Try.prog 25 [.int .i64 x, .int .i64 y] (fun u => u = .int .i64 (cmpZ x y)) := by
  refine PSpec.intro tt_ok mx_ok Try.func25 rfl (by decide) ?_; (conv => whnf)
  (refine Spec.of_pure (n := 5) (cmpIsNaN x) rfl ?_; rintro _ rfl; conv => whnf)
  (refine Spec.of_pure (n := 5) (cmpIsNaN y) rfl ?_; rintro _ rfl; conv => whnf)
  repeat' (first
      | (refine needI (by first | omega | (dsimp only; omega)) ?_; conv => whnf)
      | (refine arI trivial (by omega) ?_; conv => whnf)
      | (refine arU trivial (by omega) ?_; conv => whnf)
      | (refine arB trivial (by omega) ?_; conv => whnf)
      | (refine drawI (by decide +kernel) ?_; conv => whnf)
      | (refine drawR (by decide +kernel) ?_; conv => whnf)
      | (refine boxP rfl ?_; conv => whnf)
      | (refine appI _ rfl (by first | omega | (dsimp only; omega) | (simp only [List.length_cons, List.length_nil, List.length_append]; omega)) ?_; conv => whnf)
      | (refine rowSetI _ rfl ?_; conv => whnf)
      | (refine cmpT (by omega) ?_; conv => whnf)
      | (refine cmpF (by omega) ?_; conv => whnf)
      | (refine cmpI (fun _ => ?_) (fun _ => ?_) <;> conv => whnf))
  all_goals
    refine ⟨av_int ?_, rfl⟩
    unfold cmpZ
    simp [*]

theorem slCompare (xs ys : List Int) (hx : xs.length ≤ 4611686018427387904) : PSpec Try.prog 24 [.sl 0 encI xs, .sl 0 encI ys] (fun u => u = .int .i64 (cmpL xs ys)) := by
  refine PSpec.intro tt_ok mx_ok Try.func24 rfl (by decide) ?_; (conv => whnf)
  refine WPc.loop (fun k : Nat => k ≤ xs.length ∧ k ≤ ys.length ∧ cmpL xs ys = cmpL (xs.drop k) (ys.drop k)) (fun k => ((.sl 0 encI xs) :: (.sl 0 encI ys) :: .top :: .top :: .top :: .top :: .top :: .top :: .top :: (.sl 0 encI xs) :: (.int .i64 (xs.length : Int)) :: (.int .i64 (k : Int)) :: T 24)) (fun _ => Mem.ofL []) (fun k => xs.length - k) 0 ⟨by omega, by omega, by simp⟩ (Sub.by_ [] [] 400 rfl trivial (by repeat' (first | exact True.intro | exact rfl | (refine And.intro ?_ ?_) | ((conv => whnf); omega) | ((conv => whnf); simp only [List.length_append, List.length_cons, List.length_nil]; done) | ((conv => whnf); simp only [List.length_append, List.length_cons, List.length_nil]; omega)))) ?_
  rintro k ⟨hk1, hk2, hk3⟩
  refine codeK_ok tt_ok mx_ok _ _ _ _ ?_
  conv => whnf
  refine cmpI (fun h1 => ?_) (fun h1 => ?_) <;> conv => whnf
  · by_cases h2 : k < ys.length
    · rw [cmpL_z (by omega) h2] at hk3
      repeat' (first
          | (refine needI (by first | omega | (dsimp only; omega)) ?_; conv => whnf)
          | (refine arI trivial (by omega) ?_; conv => whnf)
          | (refine arU trivial (by omega) ?_; conv => whnf)
          | (refine arB trivial (by omega) ?_; conv => whnf)
          | (refine drawI (by decide +kernel) ?_; conv => whnf)
          | (refine drawR (by decide +kernel) ?_; conv => whnf)
          | (refine boxP rfl ?_; conv => whnf)
          | (refine appI _ rfl (by first | omega | (dsimp only; omega) | (simp only [List.length_cons, List.length_nil, List.length_append]; omega)) ?_; conv => whnf)
          | (refine rowSetI _ rfl ?_; conv => whnf)
          | (refine cmpT (by omega) ?_; conv => whnf)
          | (refine cmpF (by omega) ?_; conv => whnf)
          | (refine cmpI (fun _ => ?_) (fun _ => ?_) <;> conv => whnf))
      (refine Spec.of_pure (n := 5) (cmpCompare _ _) rfl ?_; rintro _ rfl; conv => whnf)
      repeat' (first
          | (refine needI (by first | omega | (dsimp only; omega)) ?_; conv => whnf)
          | (refine arI trivial (by omega) ?_; conv => whnf)
          | (refine arU trivial (by omega) ?_; conv => whnf)
          | (refine arB trivial (by omega) ?_; conv => whnf)
          | (refine drawI (by decide +kernel) ?_; conv => whnf)
          | (refine drawR (by decide +kernel) ?_; conv => whnf)
          | (refine boxP rfl ?_; conv => whnf)
          | (refine appI _ rfl (by first | omega | (dsimp only; omega) | (simp only [List.length_cons, List.length_nil, List.length_append]; omega)) ?_; conv => whnf)
          | (refine rowSetI _ rfl ?_; conv => whnf)
          | (refine cmpT (by omega) ?_; conv => whnf)
          | (refine cmpF (by omega) ?_; conv => whnf)
          | (refine cmpI (fun _ => ?_) (fun _ => ?_) <;> conv => whnf))
      · rename_i h
        exact ⟨av_int (by rw [hk3, if_pos (by simpa using h)]; rfl), rfl⟩
      · rename_i h
        refine ⟨k + 1, (Sub.by_ [] [] 400 rfl trivial (by repeat' (first | exact True.intro | exact rfl | (refine And.intro ?_ ?_) | ((conv => whnf); omega) | ((conv => whnf); simp only [List.length_append, List.length_cons, List.length_nil]; done) | ((conv => whnf); simp only [List.length_append, List.length_cons, List.length_nil]; omega)))), ⟨by omega, by omega, ?_⟩, Nat.sub_lt_sub_left (by omega) (by omega)⟩
        rw [hk3, if_neg (by simpa using h)]
    · rw [cmpL_drop_gt (by omega) (by omega)] at hk3
      repeat' (first
          | (refine needI (by first | omega | (dsimp only; omega)) ?_; conv => whnf)
          | (refine arI trivial (by omega) ?_; conv => whnf)
          | (refine arU trivial (by omega) ?_; conv => whnf)
          | (refine arB trivial (by omega) ?_; conv => whnf)
          | (refine drawI (by decide +kernel) ?_; conv => whnf)
          | (refine drawR (by decide +kernel) ?_; conv => whnf)
          | (refine boxP rfl ?_; conv => whnf)
          | (refine appI _ rfl (by first | omega | (dsimp only; omega) | (simp only [List.length_cons, List.length_nil, List.length_append]; omega)) ?_; conv => whnf)
          | (refine rowSetI _ rfl ?_; conv => whnf)
          | (refine cmpT (by omega) ?_; conv => whnf)
          | (refine cmpF (by omega) ?_; conv => whnf)
          | (refine cmpI (fun _ => ?_) (fun _ => ?_) <;> conv => whnf))
      exact ⟨av_int hk3.symm, rfl⟩
  · by_cases h2 : k < ys.length
    · rw [cmpL_drop_lt (by omega) h2] at hk3
      repeat' (first
          | (refine needI (by first | omega | (dsimp only; omega)) ?_; conv => whnf)
          | (refine arI trivial (by omega) ?_; conv => whnf)
          | (refine arU trivial (by omega) ?_; conv => whnf)
          | (refine arB trivial (by omega) ?_; conv => whnf)
          | (refine drawI (by decide +kernel) ?_; conv => whnf)
          | (refine drawR (by decide +kernel) ?_; conv => whnf)
          | (refine boxP rfl ?_; conv => whnf)
          | (refine appI _ rfl (by first | omega | (dsimp only; omega) | (simp only [List.length_cons, List.length_nil, List.length_append]; omega)) ?_; conv => whnf)
          | (refine rowSetI _ rfl ?_; conv => whnf)
          | (refine cmpT (by omega) ?_; conv => whnf)
          | (refine cmpF (by omega) ?_; conv => whnf)
          | (refine cmpI (fun _ => ?_) (fun _ => ?_) <;> conv => whnf))
      exact ⟨av_int hk3.symm, rfl⟩
    · rw [cmpL_drop_eq (by omega) h2] at hk3
      repeat' (first
          | (refine needI (by first | omega | (dsimp only; omega)) ?_; conv => whnf)
          | (refine arI trivial (by omega) ?_; conv => whnf)
          | (refine arU trivial (by omega) ?_; conv => whnf)
          | (refine arB trivial (by omega) ?_; conv => whnf)
          | (refine drawI (by decide +kernel) ?_; conv => whnf)
          | (refine drawR (by decide +kernel) ?_; conv => whnf)
          | (refine boxP rfl ?_; conv => whnf)
          | (refine appI _ rfl (by first | omega | (dsimp only; omega) | (simp only [List.length_cons, List.length_nil, List.length_append]; omega)) ?_; conv => whnf)
          | (refine rowSetI _ rfl ?_; conv => whnf)
          | (refine cmpT (by omega) ?_; conv => whnf)
          | (refine cmpF (by omega) ?_; conv => whnf)
          | (refine cmpI (fun _ => ?_) (fun _ => ?_) <;> conv => whnf))
      exact ⟨av_int hk3.symm, rfl⟩

theorem unfoldCompareInts (xs ys : List Int) (hx : xs.length ≤ 4611686018427387904) : PSpec Try.prog 27 [.sl 0 encI xs, .sl 0 encI ys] (fun u => u = .int .i64 (cmpL xs ys)) := by
  refine PSpec.intro tt_ok mx_ok Try.func27 rfl (by decide) ?_; (conv => whnf)
  (refine Spec.of_pure (n := 5) (slCompare xs ys hx) rfl ?_; rintro _ rfl; conv => whnf)
  exact ⟨rfl, rfl⟩

end Go.Proofs.Ytihligeggkpolaa
