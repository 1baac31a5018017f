import Derived.Test.YtaeomngmcfdfpaaGreatDoorTab
set_option linter.unusedVariables false
set_option linter.unusedSimpArgs false
namespace Go.Proofs.YtaeomngmcfdfpaaGreatDoor
def T (n : Nat) : List AV := List.replicate n .top
def encL (l : List Int) : List AV := [.sl 0 encI l]
def cmpL : List Int → List Int → Int
 | [], [] => 0
 | [], _ :: _ => -1
 | _ :: _, [] => 1
 | x :: xs, y :: ys => if x < y then -1 else if y < x then 1 else cmpL xs ys
theorem cmpL_drop {xs ys : List Int} {k : Nat} (h1 : k < xs.length) (h2 : k < ys.length) : cmpL (xs.drop k) (ys.drop k) = if xs.getD k 0 < ys.getD k 0 then -1 else if ys.getD k 0 < xs.getD k 0 then 1 else cmpL (xs.drop (k + 1)) (ys.drop (k + 1)) := by
 rw [List.drop_eq_getElem_cons h1, List.drop_eq_getElem_cons h2]
 simp [cmpL, List.getD, h1, h2]
theorem cmpL_drop_lt {xs ys : List Int} {k : Nat} (h1 : ¬ k < xs.length) (h2 : k < ys.length) : cmpL (xs.drop k) (ys.drop k) = -1 := by
 rw [List.drop_eq_nil_of_le (by omega), List.drop_eq_getElem_cons h2]; rfl
theorem cmpL_drop_gt {xs ys : List Int} {k : Nat} (h1 : k < xs.length) (h2 : ¬ k < ys.length) : cmpL (xs.drop k) (ys.drop k) = 1 := by
 rw [(List.drop_eq_nil_of_le (by omega) : ys.drop k = []), List.drop_eq_getElem_cons h1]; rfl
theorem cmpL_drop_eq {xs ys : List Int} {k : Nat} (h1 : ¬ k < xs.length) (h2 : ¬ k < ys.length) : cmpL (xs.drop k) (ys.drop k) = 0 := by
 rw [List.drop_eq_nil_of_le (by omega), (List.drop_eq_nil_of_le (by omega) : ys.drop k = [])]; rfl
def cmpZ (x y : Int) : Int := if x < y then -1 else if y < x then 1 else 0
theorem cmpL_z {xs ys : List Int} {k : Nat} (h1 : k < xs.length) (h2 : k < ys.length) : cmpL (xs.drop k) (ys.drop k) = if cmpZ (xs.getD k 0) (ys.getD k 0) ≠ 0 then cmpZ (xs.getD k 0) (ys.getD k 0) else cmpL (xs.drop (k + 1)) (ys.drop (k + 1)) := by
 rw [cmpL_drop h1 h2]
 unfold cmpZ
 by_cases a : xs.getD k 0 < ys.getD k 0
 ·rw [if_pos a, if_pos a, if_pos (by decide)]
 ·by_cases b : ys.getD k 0 < xs.getD k 0
  ·rw [if_neg a, if_pos b, if_neg a, if_pos b, if_pos (by decide)]
  ·rw [if_neg a, if_neg b, if_neg a, if_neg b, if_neg (by decide)]
theorem av_int {a b : Int} (h : a = b) : AV.int .i64 a = .int .i64 b := by rw [h]
theorem av_bool {a b : Bool} (h : a = b) : AV.bool a = .bool b := by rw [h]
set_option maxRecDepth 10000
theorem refCompareInts (xs ys : List Int) (hx : xs.length ≤ 4611686018427387904) : PSpec Tryz.prog 30 [.sl 0 encI xs, .sl 0 encI ys] (fun u => u = .int .i64 (cmpL xs ys)) := by
 refine PSpec.intro tt_ok mx_ok Tryz.func30 rfl (by decide) ?_; (conv => whnf)
 refine WPc.loop (fun k : Nat => k ≤ xs.length ∧ k ≤ ys.length ∧ cmpL xs ys = cmpL (xs.drop k) (ys.drop k)) (fun k => .sl 0 encI xs :: .sl 0 encI ys :: .top :: .top :: .top :: .int .i64 (k : Int) :: T 40) (fun _ => Mem.ofL []) (fun k => xs.length - k) 0 ⟨by omega, by omega, by simp⟩ (Sub.by_ [] [] 100 rfl trivial ⟨rfl, rfl, rfl, trivial⟩) ?_
 rintro k ⟨hk1, hk2, hk3⟩
 refine codeK_ok tt_ok mx_ok _ _ _ _ ?_
 conv => whnf
 refine cmpI (fun h1 => ?_) (fun h1 => ?_) <;> conv => whnf
 ·refine cmpI (fun h2 => ?_) (fun h2 => ?_) <;> conv => whnf
  ·have hd := cmpL_drop (xs := xs) (ys := ys) (k := k) (by omega) (by omega)
   rw [hd] at hk3
   repeat' first | (refine at_ ?_; conv => whnf) | (refine cmpI (fun _ => ?_) (fun _ => ?_) <;> conv => whnf)
   ·rename_i h
    refine ⟨av_int ?_, rfl⟩
    rw [hk3, if_pos (by simpa using h)]
   ·rename_i h h'
    refine ⟨av_int ?_, rfl⟩
    rw [hk3, if_neg (by simpa using h), if_pos (by simpa using h')]
   ·rename_i h h'
    refine ⟨k + 1, Sub.by_ [] [] 100 rfl trivial ⟨rfl, rfl, rfl, trivial⟩, ⟨by omega, by omega, ?_⟩, Nat.sub_lt_sub_left (by omega) (by omega)⟩
    rw [hk3, if_neg (by simpa using h), if_neg (by simpa using h')]
  ·rw [cmpL_drop_gt (by omega) (by omega)] at hk3
   repeat' first | (refine at_ ?_; conv => whnf) | (refine cmpI (fun _ => ?_) (fun _ => ?_) <;> conv => whnf)
   exact ⟨av_int hk3.symm, rfl⟩
 ·by_cases h2 : k < ys.length
  ·rw [cmpL_drop_lt (by omega) h2] at hk3
   repeat' first | (refine at_ ?_; conv => whnf) | (refine cmpI (fun _ => ?_) (fun _ => ?_) <;> conv => whnf)
   exact ⟨av_int hk3.symm, rfl⟩
  ·rw [cmpL_drop_eq (by omega) h2] at hk3
   repeat' first | (refine at_ ?_; conv => whnf) | (refine cmpI (fun _ => ?_) (fun _ => ?_) <;> conv => whnf)
   exact ⟨av_int hk3.symm, rfl⟩
theorem refSameInts (xs ys : List Int) (hx : xs.length ≤ 4611686018427387904) : PSpec Tryz.prog 15 [.sl 0 encI xs, .sl 0 encI ys] (fun u => u = .bool (decide (cmpL xs ys = 0))) := by
 refine PSpec.intro tt_ok mx_ok Tryz.func15 rfl (by decide) ?_; (conv => whnf)
 (refine oP (refCompareInts xs ys hx) ?_; conv => whnf)
 repeat' first | (refine at_ ?_; conv => whnf) | (refine cmpI (fun _ => ?_) (fun _ => ?_) <;> conv => whnf)
 ·rename_i h; exact ⟨av_bool (by simpa using h), rfl⟩
 ·rename_i h; exact ⟨av_bool (by simpa using h), rfl⟩
theorem cmpIsNaN (x : Int) : PSpec Tryz.prog 157 [.int .i64 x] (fun u => u = .bool false) := by
 refine PSpec.intro tt_ok mx_ok Tryz.func157 rfl (by decide) ?_; (conv => whnf)
 repeat' first | (refine at_ ?_; conv => whnf) | (refine cmpI (fun _ => ?_) (fun _ => ?_) <;> conv => whnf)
 exact ⟨rfl, rfl⟩
theorem cmpCompare (x y : Int) : PSpec Tryz.prog 123 [.int .i64 x, .int .i64 y] (fun u => u = .int .i64 (cmpZ x y)) := by
 refine PSpec.intro tt_ok mx_ok Tryz.func123 rfl (by decide) ?_; (conv => whnf)
 (refine oP (cmpIsNaN x) ?_; conv => whnf)
 (refine oP (cmpIsNaN y) ?_; conv => whnf)
 repeat' first | (refine at_ ?_; conv => whnf) | (refine cmpI (fun _ => ?_) (fun _ => ?_) <;> conv => whnf)
 all_goals
  refine ⟨av_int ?_, rfl⟩
  unfold cmpZ
  simp [*]
theorem slCompare (xs ys : List Int) (hx : xs.length ≤ 4611686018427387904) : PSpec Tryz.prog 101 [.sl 0 encI xs, .sl 0 encI ys] (fun u => u = .int .i64 (cmpL xs ys)) := by
 refine PSpec.intro tt_ok mx_ok Tryz.func101 rfl (by decide) ?_; (conv => whnf)
 refine WPc.loop (fun k : Nat => k ≤ xs.length ∧ k ≤ ys.length ∧ cmpL xs ys = cmpL (xs.drop k) (ys.drop k)) (fun k => ((.sl 0 encI xs) :: (.sl 0 encI ys) :: .top :: .top :: .top :: .top :: .top :: .top :: .top :: (.sl 0 encI xs) :: (.int .i64 (xs.length : Int)) :: (.int .i64 (k : Int)) :: T 24)) (fun _ => Mem.ofL []) (fun k => xs.length - k) 0 ⟨by omega, by omega, by simp⟩ (Sub.by_ [] [] 400 rfl trivial auto_) ?_
 rintro k ⟨hk1, hk2, hk3⟩
 refine codeK_ok tt_ok mx_ok _ _ _ _ ?_
 conv => whnf
 refine cmpI (fun h1 => ?_) (fun h1 => ?_) <;> conv => whnf
 ·by_cases h2 : k < ys.length
  ·rw [cmpL_z (by omega) h2] at hk3
   repeat' first | (refine at_ ?_; conv => whnf) | (refine cmpI (fun _ => ?_) (fun _ => ?_) <;> conv => whnf)
   (refine oP (cmpCompare _ _) ?_; conv => whnf)
   repeat' first | (refine at_ ?_; conv => whnf) | (refine cmpI (fun _ => ?_) (fun _ => ?_) <;> conv => whnf)
   ·rename_i h
    exact ⟨av_int (by rw [hk3, if_pos (by simpa using h)]; rfl), rfl⟩
   ·rename_i h
    refine ⟨k + 1, (Sub.by_ [] [] 400 rfl trivial auto_), ⟨by omega, by omega, ?_⟩, Nat.sub_lt_sub_left (by omega) (by omega)⟩
    rw [hk3, if_neg (by simpa using h)]
  ·rw [cmpL_drop_gt (by omega) (by omega)] at hk3
   repeat' first | (refine at_ ?_; conv => whnf) | (refine cmpI (fun _ => ?_) (fun _ => ?_) <;> conv => whnf)
   exact ⟨av_int hk3.symm, rfl⟩
 ·by_cases h2 : k < ys.length
  ·rw [cmpL_drop_lt (by omega) h2] at hk3
   repeat' first | (refine at_ ?_; conv => whnf) | (refine cmpI (fun _ => ?_) (fun _ => ?_) <;> conv => whnf)
   exact ⟨av_int hk3.symm, rfl⟩
  ·rw [cmpL_drop_eq (by omega) h2] at hk3
   repeat' first | (refine at_ ?_; conv => whnf) | (refine cmpI (fun _ => ?_) (fun _ => ?_) <;> conv => whnf)
   exact ⟨av_int hk3.symm, rfl⟩
theorem unfoldCompareInts (xs ys : List Int) (hx : xs.length ≤ 4611686018427387904) : PSpec Tryz.prog 58 [.sl 0 encI xs, .sl 0 encI ys] (fun u => u = .int .i64 (cmpL xs ys)) := by
 refine PSpec.intro tt_ok mx_ok Tryz.func58 rfl (by decide) ?_; (conv => whnf)
 (refine oP (slCompare xs ys hx) ?_; conv => whnf)
 exact ⟨rfl, rfl⟩
theorem sl_eq {α : Type} {d : α} {enc : α → List AV} {l l' : List α} (h : l = l') : AV.sl d enc l = AV.sl d enc l' := by rw [h]
def mid {α : Type} (S : List α) (j : Nat) (x : α) (r : List α) : List α := S.take j ++ x :: (S.drop j ++ r)
theorem mid_split {α : Type} {S : List α} {j : Nat} (x : α) (r : List α) (h0 : 0 < j) (h1 : j ≤ S.length) :
  mid S j x r = S.take (j - 1) ++ S[j - 1] :: x :: (S.drop j ++ r) ∧ mid S (j - 1) x r = S.take (j - 1) ++ x :: S[j - 1] :: (S.drop j ++ r) := by
 obtain ⟨m, rfl⟩ : ∃ m, j = m + 1 := ⟨j - 1, by omega⟩
 simp only [Nat.add_sub_cancel]
 unfold mid
 have e1 : S.take (m + 1) = S.take m ++ [S[m]] := List.take_succ_eq_append_getElem (by omega)
 have e2 : S.drop m = S[m] :: S.drop (m + 1) := List.drop_eq_getElem_cons (by omega)
 constructor
 ·rw [e1, List.append_assoc]; rfl
 ·rw [e2]; rfl
theorem mid_length {α : Type} {S : List α} {j : Nat} (x : α) (r : List α) : (mid S j x r).length = S.length + 1 + r.length := by
 unfold mid; simp; omega
theorem mid_at {α : Type} {S : List α} {j : Nat} (x : α) (r : List α) (d : α) (h1 : j ≤ S.length) : (mid S j x r).getD j d = x := by
 unfold mid
 rw [gD, List.getElem?_append_right (by simp; omega)]
 simp [show min j S.length = j from by omega]
theorem mid_before {α : Type} {S : List α} {j : Nat} (x : α) (r : List α) (d : α) (h0 : 0 < j) (h1 : j ≤ S.length) : (mid S j x r).getD (j - 1) d = S[j - 1] := by
 rw [(mid_split x r h0 h1).1, gD, List.getElem?_append_right (by simp; omega)]
 simp [show min (j - 1) S.length = j - 1 from by omega]
theorem set_at {α : Type} (A B : List α) (x y : α) : (A ++ x :: B).set A.length y = A ++ y :: B := by
 simp
theorem mid_swap {α : Type} {S : List α} {j : Nat} (x : α) (r : List α) (h0 : 0 < j) (h1 : j ≤ S.length) : ((mid S j x r).set j S[j - 1]).set (j - 1) x = mid S (j - 1) x r := by
 obtain ⟨e1, e2⟩ := mid_split x r h0 h1
 rw [e1, e2]
 have hl : (S.take (j - 1)).length = j - 1 := by simp; omega
 have a1 : (S.take (j - 1) ++ S[j - 1] :: x :: (S.drop j ++ r)).set j S[j - 1] = S.take (j - 1) ++ S[j - 1] :: S[j - 1] :: (S.drop j ++ r) := by
  have := set_at (S.take (j - 1) ++ [S[j - 1]]) (S.drop j ++ r) x S[j - 1]
  rw [List.length_append, hl] at this
  simp only [List.length_cons, List.length_nil, List.append_assoc, List.cons_append, List.nil_append] at this
  rw [show j - 1 + (0 + 1) = j from by omega] at this
  exact this
 rw [a1]
 have := set_at (S.take (j - 1)) (S[j - 1] :: (S.drop j ++ r)) S[j - 1] x
 rw [hl] at this
 exact this
theorem mid_perm {α : Type} (S : List α) (j : Nat) (x : α) (r : List α) : (mid S j x r).Perm (S ++ x :: r) := by
 unfold mid
 have : (S ++ x :: r) = S.take j ++ (S.drop j ++ x :: r) := by rw [← List.append_assoc, List.take_append_drop]
 rw [this]
 refine List.Perm.append_left _ ?_
 exact List.perm_middle.symm
structure Ord (α : Type) (c : α → α → Int) : Prop where
 anti : ∀ a b, c a b < 0 → c b a > 0
 anti' : ∀ a b, c a b > 0 → c b a < 0
 trans : ∀ a b d, c a b ≤ 0 → c b d ≤ 0 → c a d ≤ 0
def Srt {α : Type} (c : α → α → Int) (l : List α) : Prop := l.Pairwise fun a b => c a b ≤ 0
theorem mid_sorted {α : Type} {c : α → α → Int} (hc : Ord α c) {S : List α} (hS : Srt c S) {j : Nat} (hj : j ≤ S.length) (x : α) (h1 : ∀ s ∈ S.drop j, c x s < 0) (h2 : ∀ (h : 0 < j), ¬ c x (S[j - 1]'(by omega)) < 0) : Srt c (mid S j x []) := by
 unfold mid Srt
 have hsplit : S.take j ++ S.drop j = S := List.take_append_drop j S
 unfold Srt at hS
 rw [← hsplit, List.pairwise_append] at hS
 obtain ⟨hA, hB, hAB⟩ := hS
 have hlast : ∀ a ∈ S.take j, c a x ≤ 0 := by
  intro a ha
  by_cases h0 : 0 < j
  ·have hx := h2 h0
   have hlx : c S[j - 1] x ≤ 0 := by
    by_cases hh : c S[j - 1] x ≤ 0
    ·exact hh
    ·exact absurd (hc.anti' _ _ (by omega)) hx
   have e1 : S.take j = S.take (j - 1) ++ [S[j - 1]] := by
    obtain ⟨m, rfl⟩ : ∃ m, j = m + 1 := ⟨j - 1, by omega⟩
    exact List.take_succ_eq_append_getElem (by omega)
   rw [e1] at ha hA
   rcases List.mem_append.1 ha with ha | ha
   ·rw [List.pairwise_append] at hA
    exact hc.trans _ _ _ (hA.2.2 a ha _ (by simp)) hlx
   ·simp at ha; subst ha; exact hlx
  ·have : j = 0 := by omega
   subst this; simp at ha
 rw [List.pairwise_append]
 refine ⟨hA, ?_, ?_⟩
 ·rw [List.append_nil, List.pairwise_cons]
  exact ⟨fun s hs => by have := h1 s hs; omega, hB⟩
 ·intro a ha b hb
  rcases List.mem_cons.1 hb with rfl | hb
  ·exact hlast a ha
  ·rw [List.append_nil] at hb; exact hAB a ha b hb
theorem cmpL_ord : Ord (List Int) cmpL where
 anti := by
  intro a
  induction a with
  | nil => intro b h; cases b <;> simp_all [cmpL]
  | cons x xs ih =>
   intro b h
   cases b with
   | nil => simp [cmpL] at h
   | cons y ys =>
    simp only [cmpL] at *
    by_cases a : x < y
    ·simp [a, show ¬ y < x from by omega]
    ·by_cases b : y < x
     ·simp [a, b] at h
     ·simp only [a, b, if_false] at *; exact ih ys h
 anti' := by
  intro a
  induction a with
  | nil => intro b h; cases b <;> simp_all [cmpL]
  | cons x xs ih =>
   intro b h
   cases b with
   | nil => simp [cmpL]
   | cons y ys =>
    simp only [cmpL] at *
    by_cases a : x < y
    ·simp [a] at h
    ·by_cases b : y < x
     ·simp [b]
     ·simp only [a, b, if_false] at *; exact ih ys h
 trans := by
  intro a
  induction a with
  | nil => intro b d _ h2; cases d <;> simp [cmpL]
  | cons x xs ih =>
   intro b d h1 h2
   cases b with
   | nil => simp [cmpL] at h1
   | cons y ys =>
    cases d with
    | nil => simp [cmpL] at h2
    | cons z zs =>
     simp only [cmpL] at *
     by_cases a1 : x < y
     ·by_cases b1 : y < z
      ·simp [show x < z from by omega]
      ·by_cases b2 : z < y
       ·simp [b1, b2] at h2
       ·simp [show x < z from by omega]
     ·by_cases a2 : y < x
      ·simp [a1, a2] at h1
      ·by_cases b1 : y < z
       ·simp [show x < z from by omega]
       ·by_cases b2 : z < y
        ·simp [b1, b2] at h2
        ·have e1 : ¬ x < z := by omega
         have e2 : ¬ z < x := by omega
         simp only [a1, a2, b1, b2, e1, e2, if_false] at *
         exact ih ys zs h1 h2
theorem cmpL_eq : ∀ {a b : List Int}, cmpL a b = 0 → a = b
 | [], [], _ => rfl
 | [], _ :: _, h => by simp [cmpL] at h
 | _ :: _, [], h => by simp [cmpL] at h
 | x :: xs, y :: ys, h => by
  simp only [cmpL] at h
  by_cases a : x < y
  ·simp [a] at h
  ·by_cases b : y < x
   ·simp [a, b] at h
   ·simp only [a, b, if_false] at h
    rw [cmpL_eq h, show x = y from by omega]
theorem cmpL_self : ∀ (a : List Int), cmpL a a = 0
 | [] => rfl
 | x :: xs => by simp [cmpL, cmpL_self xs]
set_option maxRecDepth 10000
def rowL (l : List (List Int)) : Blk := .row 24 [] encL l
theorem rowL_eq {l l' : List (List Int)} (h : l = l') : rowL l = rowL l' := by rw [h]
theorem mid_end {α : Type} (S : List α) (x : α) (r : List α) : mid S S.length x r = S ++ x :: r := by simp [mid]
theorem mid_app {α : Type} (S : List α) (j : Nat) (x : α) (r : List α) : mid S j x r = mid S j x [] ++ r := by simp [mid]
theorem insSort (l : List (List Int)) (hn : l.length ≤ 4611686018427387904) (hb : ∀ a ∈ l, a.length ≤ 4611686018427387904) :
  Spec Tryz.prog 147 [.row 0 l.length 1, .int .i64 0, .int .i64 (l.length : Int), .fn 58 []] (Mem.ofL [(0, rowL l)])
   (fun u M' => u = .tup [] ∧ ∃ l', M' 0 = some (rowL l') ∧ l'.Perm l ∧ Srt cmpL l') := by
 refine Spec.intro tt_ok mx_ok [(0, rowL l)] Tryz.func147 rfl (by decide) ?_
 conv => whnf
 repeat' first | (refine at_ ?_; conv => whnf) | (refine cmpI (fun _ => ?_) (fun _ => ?_) <;> conv => whnf)
 cases l with
 | nil =>
  refine WPc.loop (fun _ : Nat => True) (fun _ => ((.row 0 0 1) :: .top :: (.int .i64 0) :: .top :: .top :: .top :: .top :: .top :: (.int .i64 1) :: T 44)) (fun _ => Mem.ofL [(0, rowL [])]) (fun _ => 0) 0 trivial (Sub.by_ [(0, .old 0)] _ 400 rfl ⟨rfl, trivial⟩ (auto_)) ?_
  intro k _
  refine codeK_ok tt_ok mx_ok _ _ _ _ ?_
  conv => whnf
  repeat' first | (refine at_ ?_; conv => whnf) | (refine cmpI (fun _ => ?_) (fun _ => ?_) <;> conv => whnf)
  exact ⟨rfl, [], rfl, List.Perm.refl _, List.Pairwise.nil⟩
 | cons x0 l0 =>
  refine WPc.loop2 (fun S rest : List (List Int) => (S ++ rest).Perm (x0 :: l0) ∧ Srt cmpL S ∧ 0 < S.length) (fun S _ => ((.row 0 (x0 :: l0).length 1) :: (.int .i64 0) :: (.int .i64 ((x0 :: l0).length : Int)) :: (.fn 58 []) :: .top :: .top :: .top :: .top :: (.int .i64 (S.length : Int)) :: T 44)) (fun S rest => Mem.ofL [(0, rowL (S ++ rest))]) (fun _ rest => rest.length) [x0] l0 ⟨List.Perm.refl _, List.pairwise_singleton _ _, by simp⟩ (Sub.by_ [(0, .old 0)] _ 400 rfl ⟨rfl, trivial⟩ (auto_)) ?_
  rintro S rest ⟨hp, hs, h0⟩
  have hlen : S.length + rest.length = (x0 :: l0).length := by have := hp.length_eq; simpa using this
  refine codeK_ok tt_ok mx_ok _ _ _ _ ?_
  conv => whnf
  cases rest with
  | nil =>
   simp only [List.length_nil] at hlen
   repeat' first | (refine at_ ?_; conv => whnf) | (refine cmpI (fun _ => ?_) (fun _ => ?_) <;> conv => whnf)
   rw [List.append_nil] at hp
   exact ⟨rfl, S, by rw [List.append_nil]; rfl, hp, hs⟩
  | cons x r =>
   have hbx : ∀ a ∈ S ++ x :: r, a.length ≤ 4611686018427387904 := fun a ha => hb a (hp.mem_iff.1 ha)
   generalize hnn : (x0 :: l0).length = n at hlen hn ⊢
   simp only [List.length_cons] at hlen
   refine tI ?_
   conv => whnf
   refine WPc.loop (fun j : Nat => j ≤ S.length ∧ ∀ s ∈ S.drop j, cmpL x s < 0) (fun j => ((.row 0 n 1) :: (.int .i64 0) :: (.int .i64 (n : Int)) :: (.fn 58 []) :: .top :: .top :: .top :: .top :: (.int .i64 (S.length : Int)) :: (.int .i64 (j : Int)) :: T 43)) (fun j => Mem.ofL [(0, rowL (mid S j x r))]) (fun j => j) S.length ⟨Nat.le_refl _, by simp⟩ (Sub.by_ [(0, .old 0)] _ 400 rfl ⟨rowL_eq (mid_end S x r).symm, trivial⟩ (auto_)) ?_
   rintro j ⟨hj, hgt⟩
   have hml : (mid S j x r).length = n := by rw [mid_length]; omega
   refine codeK_ok tt_ok mx_ok _ _ _ _ ?_
   conv => whnf
   refine drawI (by kernel_rfl) ?_
   conv => whnf
   have hml2 : (mid S j x []).length = S.length + 1 := by rw [mid_length]; rfl
   have hp2 : (mid S j x [] ++ r).Perm (x0 :: l0) := by rw [← mid_app]; exact (mid_perm S j x r).trans hp
   have hx : ∀ (h : Srt cmpL (mid S j x [])), (mid S j x [] ++ r).Perm (x0 :: l0) ∧ Srt cmpL (mid S j x []) ∧ 0 < (mid S j x []).length := fun h => ⟨hp2, h, by omega⟩
   refine cmpI (fun h1 => ?_) (fun h1 => ?_) <;> conv => whnf
   ·repeat' first | (refine at_ ?_; conv => whnf) | (refine cmpI (fun _ => ?_) (fun _ => ?_) <;> conv => whnf)
    have e1 := mid_at (j := j) x r [] hj
    have e2 := mid_before (j := j) x r [] (by omega) hj
    have e3 : ((j : Int) - 1).toNat = j - 1 := by omega
    simp only [tN, e3, e1, e2]
    (refine oC (unfoldCompareInts x S[j - 1] (hbx x (by simp))) ?_; conv => whnf)
    repeat' first | (refine at_ ?_; conv => whnf) | (refine cmpI (fun _ => ?_) (fun _ => ?_) <;> conv => whnf)
    ·rename_i hc
     refine ⟨j - 1, Sub.by_ [(0, .old 0)] _ 400 rfl ⟨rowL_eq ?_, trivial⟩ (auto_), ⟨by omega, ?_⟩, Nat.sub_lt (by omega) (by omega)⟩
     ·simp only [tN, e3, e1, e2]
      exact mid_swap x r (by omega) hj
     ·have : S.drop (j - 1) = S[j - 1] :: S.drop j := by
       rw [List.drop_eq_getElem_cons (by omega)]
       congr 2; omega
      rw [this]
      intro s hs'
      rcases List.mem_cons.1 hs' with rfl | hs'
      ·exact hc
      ·exact hgt s hs'
    ·rename_i hc
     exact ⟨mid S j x [], r, Sub.by_ [(0, .old 0)] _ 400 rfl ⟨rowL_eq (mid_app S j x r), trivial⟩ (auto_), hx (mid_sorted cmpL_ord hs hj x hgt fun _ => hc), Nat.lt_succ_self _⟩
   ·repeat' first | (refine at_ ?_; conv => whnf) | (refine cmpI (fun _ => ?_) (fun _ => ?_) <;> conv => whnf)
    exact ⟨mid S j x [], r, Sub.by_ [(0, .old 0)] _ 400 rfl ⟨rowL_eq (mid_app S j x r), trivial⟩ (auto_), hx (mid_sorted cmpL_ord hs hj x hgt fun h => absurd h (by omega)), Nat.lt_succ_self _⟩
set_option maxRecDepth 10000
theorem bitsLen64 (x : Int) (h0 : 0 ≤ x) (h1 : x < 256) : PSpec Tryz.prog 156 [.int .u64 x] (fun u => ∃ n : Int, u = .int .i64 n) := by
 refine PSpec.intro tt_ok mx_ok Tryz.func156 rfl (by decide) ?_; (conv => whnf)
 repeat' first | (refine at_ ?_; conv => whnf) | (refine cmpI (fun _ => ?_) (fun _ => ?_) <;> conv => whnf)
 refine needI ⟨by omega, Int.lt_of_lt_of_le h1 (by decide)⟩ ?_
 conv => whnf
 refine arW trivial ?_
 conv => whnf
 refine arW trivial ?_
 conv => whnf
 exact ⟨⟨_, rfl⟩, rfl⟩
theorem bitsLen (x : Int) (h0 : 0 ≤ x) (h1 : x < 256) : PSpec Tryz.prog 122 [.int .u64 x] (fun u => ∃ n : Int, u = .int .i64 n) := by
 refine PSpec.intro tt_ok mx_ok Tryz.func122 rfl (by decide) ?_; (conv => whnf)
 repeat' first | (refine at_ ?_; conv => whnf) | (refine cmpI (fun _ => ?_) (fun _ => ?_) <;> conv => whnf)
 refine Spec.of_pure (n := 5) (bitsLen64 x h0 h1) rfl ?_
 rintro _ ⟨n, rfl⟩
 conv => whnf
 exact ⟨⟨_, rfl⟩, rfl⟩
theorem pdqSmall (l : List (List Int)) (lim : Int) (hn : l.length ≤ 12) (hb : ∀ a ∈ l, a.length ≤ 4611686018427387904) :
  Spec Tryz.prog 121 [.row 0 l.length 1, .int .i64 0, .int .i64 (l.length : Int), .int .i64 lim, .fn 58 []] (Mem.ofL [(0, rowL l)])
   (fun u M' => u = .tup [] ∧ ∃ l', M' 0 = some (rowL l') ∧ l'.Perm l ∧ Srt cmpL l') := by
 refine Spec.intro tt_ok mx_ok [(0, rowL l)] Tryz.func121 rfl (by decide) ?_
 conv => whnf
 repeat' first | (refine at_ ?_; conv => whnf) | (refine cmpI (fun _ => ?_) (fun _ => ?_) <;> conv => whnf)
 refine WPc.loop (fun _ : Nat => True) (fun _ => ((.row 0 l.length 1) :: (.int .i64 0) :: (.int .i64 (l.length : Int)) :: (.int .i64 lim) :: (.fn 58 []) :: T 143)) (fun _ => Mem.ofL [(0, rowL l)]) (fun _ => 0) 0 trivial (Sub.by_ [(0, .old 0)] _ 400 rfl ⟨rfl, trivial⟩ (auto_)) ?_
 intro k _
 refine codeK_ok tt_ok mx_ok _ _ _ _ ?_
 conv => whnf
 repeat' first | (refine at_ ?_; conv => whnf) | (refine cmpI (fun _ => ?_) (fun _ => ?_) <;> conv => whnf)
 refine Spec.call [(0, .old 0)] [(0, rowL l)] 100 rfl ⟨rfl, trivial⟩ (auto_) (insSort l (by omega) hb) ?_
 rintro u M' ⟨rfl, l', hM, hp, hs⟩
 refine ⟨[(0, .old 0)], [(0, rowL l')], .tup [], rfl, ⟨?_, trivial⟩, trivial, ?_⟩
 ·show blkR _ _ (M' 0) _
  rw [hM]; exact rfl
 ·conv => whnf
  exact ⟨rfl, l', rfl, hp, hs⟩
theorem sortFunc (l : List (List Int)) (hn : l.length ≤ 12) (hb : ∀ a ∈ l, a.length ≤ 4611686018427387904) :
  Spec Tryz.prog 98 [.row 0 l.length 1, .fn 58 []] (Mem.ofL [(0, rowL l)])
   (fun u M' => u = .tup [] ∧ ∃ l', M' 0 = some (rowL l') ∧ l'.Perm l ∧ Srt cmpL l') := by
 refine Spec.intro tt_ok mx_ok [(0, rowL l)] Tryz.func98 rfl (by decide) ?_
 conv => whnf
 repeat' first | (refine at_ ?_; conv => whnf) | (refine cmpI (fun _ => ?_) (fun _ => ?_) <;> conv => whnf)
 refine Spec.of_pure (n := 5) (bitsLen l.length (by omega) (by omega)) rfl ?_
 rintro _ ⟨lim, rfl⟩
 conv => whnf
 refine Spec.call [(0, .old 0)] [(0, rowL l)] 100 rfl ⟨rfl, trivial⟩ (auto_) (pdqSmall l lim hn hb) ?_
 rintro u M' ⟨rfl, l', hM, hp, hs⟩
 refine ⟨[(0, .old 0)], [(0, rowL l')], .tup [], rfl, ⟨?_, trivial⟩, trivial, ?_⟩
 ·show blkR _ _ (M' 0) _
  rw [hM]; exact rfl
 ·conv => whnf
  exact ⟨rfl, l', rfl, hp, hs⟩
set_option maxRecDepth 10000
theorem tidyEq (xs ys : List Int) (hx : xs.length ≤ 4611686018427387904) : PSpec Tryz.prog 100 [.sl 0 encI xs, .sl 0 encI ys, .pd [.fn 58 []]] (fun u => u = .bool (decide (cmpL xs ys = 0))) := by
 refine PSpec.intro tt_ok mx_ok Tryz.func100 rfl (by decide) ?_; (conv => whnf)
 (refine oP (unfoldCompareInts xs ys hx) ?_; conv => whnf)
 repeat' first | (refine at_ ?_; conv => whnf) | (refine cmpI (fun _ => ?_) (fun _ => ?_) <;> conv => whnf)
 ·rename_i h; exact ⟨av_bool (by simpa using h), rfl⟩
 ·rename_i h; exact ⟨av_bool (by simpa using h), rfl⟩
theorem compactSame (l : List (List Int)) (hn : l.length ≤ 4611686018427387904) (hb : ∀ a ∈ l, a.length ≤ 4611686018427387904) (hd : ∀ i, i + 1 < l.length → cmpL (l.getD (i + 1) []) (l.getD i []) ≠ 0) :
  Spec Tryz.prog 99 [.row 0 l.length 1, .fn 100 [.pd [.fn 58 []]]] (Mem.ofL [(0, rowL l)])
   (fun u M' => u = .row 0 l.length 1 ∧ M' 0 = some (rowL l)) := by
 refine Spec.intro tt_ok mx_ok [(0, rowL l)] Tryz.func99 rfl (by decide) ?_
 conv => whnf
 repeat' first | (refine at_ ?_; conv => whnf) | (refine cmpI (fun _ => ?_) (fun _ => ?_) <;> conv => whnf)
 ·exact ⟨rfl, rfl⟩
 ·refine WPc.loop (fun i : Nat => 1 ≤ i ∧ i ≤ l.length) (fun i => ((.row 0 l.length 1) :: (.fn 100 [.pd [.fn 58 []]]) :: .top :: .top :: .top :: (.int .i64 (i : Int)) :: T 60)) (fun _ => Mem.ofL [(0, rowL l)]) (fun i => l.length - i) 1 ⟨by omega, by omega⟩ (Sub.by_ [(0, .old 0)] _ 400 rfl ⟨rfl, trivial⟩ (auto_)) ?_
  rintro i ⟨h1, h2⟩
  refine codeK_ok tt_ok mx_ok _ _ _ _ ?_
  conv => whnf
  repeat' first | (refine at_ ?_; conv => whnf) | (refine cmpI (fun _ => ?_) (fun _ => ?_) <;> conv => whnf)
  ·have e3 : ((i : Int) - 1).toNat = i - 1 := by omega
   have hh := hd (i - 1) (by omega)
   rw [show i - 1 + 1 = i from by omega] at hh
   have hi : l.getD i [] ∈ l := List.mem_of_getElem? (getD_of_lt (d := []) (l := l) (n := i) (by omega))
   simp only [tN, e3]
   refine callPI 5 (tidyEq (l.getD i []) (l.getD (i - 1) []) (hb _ hi)) rfl ⟨_, rfl⟩ ?_
   rintro _ rfl
   rw [decide_eq_false hh]
   conv => whnf
   repeat' first | (refine at_ ?_; conv => whnf) | (refine cmpI (fun _ => ?_) (fun _ => ?_) <;> conv => whnf)
   exact ⟨i + 1, Sub.by_ [(0, .old 0)] _ 400 rfl ⟨rfl, trivial⟩ (auto_), ⟨by omega, by omega⟩, Nat.sub_lt_sub_left (by omega) (by omega)⟩
  ·exact ⟨rfl, rfl⟩
def Asc (l : List (List Int)) : Prop := l.Pairwise fun a b => cmpL a b < 0
theorem asc_of {l l' : List (List Int)} (hp : l'.Perm l) (hs : Srt cmpL l') (hd : l.Nodup) : Asc l' := by
 have hd' : l'.Nodup := hp.nodup_iff.2 hd
 unfold Asc
 unfold Srt at hs
 refine (hs.and hd').imp fun {a b} h => ?_
 have hne : cmpL a b ≠ 0 := fun e => h.2 (cmpL_eq e)
 have := h.1
 omega
theorem asc_adj {l : List (List Int)} (h : Asc l) (i : Nat) (hi : i + 1 < l.length) : cmpL (l.getD (i + 1) []) (l.getD i []) ≠ 0 := by
 have h1 := List.pairwise_iff_getElem.1 h i (i + 1) (by omega) hi (by omega)
 have e1 : l.getD (i + 1) [] = l[i + 1] := by simp [List.getD, hi]
 have e2 : l.getD i [] = l[i] := by simp [List.getD, show i < l.length from by omega]
 rw [e1, e2]
 have := cmpL_ord.anti _ _ h1
 omega
theorem tidyL (l : List (List Int)) (hn : l.length ≤ 12) (hb : ∀ a ∈ l, a.length ≤ 4611686018427387904) (hd : l.Nodup) :
  PSpec Tryz.prog 57 [.sl [] encL l, .fn 58 []] (fun u => ∃ l', u = .sl [] encL l' ∧ l'.Perm l ∧ Asc l') := by
 refine PSpec.intro tt_ok mx_ok Tryz.func57 rfl (by decide) ?_; (conv => whnf)
 repeat' first | (refine at_ ?_; conv => whnf) | (refine cmpI (fun _ => ?_) (fun _ => ?_) <;> conv => whnf)
 refine Spec.call [(0, .old 7)] [(0, rowL l)] 100 rfl ⟨rfl, trivial⟩ (auto_) (sortFunc l hn hb) ?_
 rintro u M' ⟨rfl, l', hM, hp, hs⟩
 have hlen := hp.length_eq
 refine ⟨[(7, .old 0)], [(7, rowL l')], .tup [], rfl, ⟨?_, trivial⟩, trivial, ?_⟩
 ·show blkR _ _ (M' 0) _
  rw [hM]; exact rfl
 have ha := asc_of hp hs hd
 rw [← hlen]
 conv => whnf
 refine Spec.call [(0, .old 7)] [(0, rowL l')] 100 rfl ⟨rfl, trivial⟩ (auto_) (compactSame l' (by omega) (fun a h => hb a (hp.mem_iff.1 h)) (asc_adj ha)) ?_
 rintro u M' ⟨rfl, hM⟩
 refine ⟨[(7, .old 0)], [(7, rowL l')], .row 7 l'.length 1, rfl, ⟨?_, trivial⟩, rfl, ?_⟩
 ·show blkR _ _ (M' 0) _
  rw [hM]; exact rfl
 conv => whnf
 exact ⟨⟨l', rfl, hp, ha⟩, rfl⟩
set_option maxRecDepth 10000
def shpT : Nat → List (List Int)
 | 1 => [[0]]
 | 3 => [[2, 0, 0]]
 | 5 => [[2, 0, 2, 0, 0], [2, 2, 0, 0, 0]]
 | 7 => [[2, 0, 2, 0, 2, 0, 0], [2, 0, 2, 2, 0, 0, 0], [2, 2, 0, 0, 2, 0, 0], [2, 2, 0, 2, 0, 0, 0], [2, 2, 2, 0, 0, 0, 0]]
 | _ => []
def cross (A B : List (List Int)) : List (List Int) := A.flatMap fun a => B.map fun b => 2 :: (a ++ b)
def preS (n i : Nat) : List (List Int) := (List.range i).flatMap fun t => cross (shpT (2 * t + 1)) (shpT (n - 1 - (2 * t + 1)))
theorem preS_succ (n i : Nat) : preS n (i + 1) = preS n i ++ cross (shpT (2 * i + 1)) (shpT (n - 1 - (2 * i + 1))) := by
 unfold preS; rw [List.range_succ, List.flatMap_append]; simp
theorem cross_take (A B : List (List Int)) (p : Nat) (h : p < A.length) : cross (A.take (p + 1)) B = cross (A.take p) B ++ B.map fun b => 2 :: (A.getD p [] ++ b) := by
 unfold cross
 rw [List.take_succ_eq_append_getElem h, List.flatMap_append]
 simp [List.getD, h]
theorem map_take (B : List (List Int)) (f : List Int → List Int) (q : Nat) (h : q < B.length) : (B.take (q + 1)).map f = (B.take q).map f ++ [f (B.getD q [])] := by
 rw [List.take_succ_eq_append_getElem h, List.map_append]
 have : B.getD q [] = B[q] := by simp [List.getD, h]
 rw [this]; rfl
theorem shpT_len : ∀ n ∈ List.range 9, (shpT n).length ≤ 5 ∧ ∀ a ∈ shpT n, a.length ≤ 8 := by decide
theorem shpT_le {n : Nat} (h : n ≤ 8) : (shpT n).length ≤ 5 ∧ ∀ a ∈ shpT n, a.length ≤ 8 := shpT_len n (List.mem_range.2 (by omega))
theorem cross_len (A B : List (List Int)) : (cross A B).length = A.length * B.length := by
 unfold cross
 induction A with
 | nil => simp
 | cons a A ih => rw [List.flatMap_cons, List.length_append, ih]; simp [Nat.add_mul, Nat.add_comm]
theorem preS_len {n : Nat} (hn : n ≤ 8) : ∀ i : Nat, 2 * i ≤ n → (preS n i).length ≤ 25 * i
 | 0, _ => by simp [preS]
 | i + 1, h => by
  rw [preS_succ, List.length_append, cross_len]
  have h1 := preS_len hn i (by omega)
  have h2 := (shpT_le (n := 2 * i + 1) (by omega)).1
  have h3 := (shpT_le (n := n - 1 - (2 * i + 1)) (by omega)).1
  have h4 : (shpT (2 * i + 1)).length * (shpT (n - 1 - (2 * i + 1))).length ≤ 5 * 5 := Nat.mul_le_mul h2 h3
  omega
theorem asc_unique : ∀ {l l' : List (List Int)}, Asc l → Asc l' → l.Perm l' → l = l'
 | [], l', _, _, hp => (List.nil_perm.1 hp).symm
 | a :: l, [], _, _, hp => by have := hp.length_eq; simp at this
 | a :: l, b :: l', h, h', hp => by
  have hh := List.pairwise_cons.1 h
  have hh' := List.pairwise_cons.1 h'
  have hab : a = b := by
   have h1 : a ∈ b :: l' := hp.mem_iff.1 (by simp)
   have h2 : b ∈ a :: l := hp.mem_iff.2 (by simp)
   rcases List.mem_cons.1 h1 with e | h1
   ·exact e
   ·rcases List.mem_cons.1 h2 with e | h2
    ·exact e.symm
    ·have := hh.1 b h2
     have := hh'.1 a h1
     have := cmpL_ord.anti _ _ (hh.1 b h2)
     omega
  subst hab
  rw [asc_unique hh.2 hh'.2 (List.Perm.cons_inv hp)]
instance (l : List (List Int)) : Decidable (Asc l) := inferInstanceAs (Decidable (List.Pairwise _ _))
theorem shpT_asc : ∀ m ∈ [1, 2, 3], Asc (shpT (2 * m + 1)) ∧ (shpT (2 * m + 1)).Perm (preS (2 * m + 1) m) ∧ (preS (2 * m + 1) m).Nodup ∧ (preS (2 * m + 1) m).length ≤ 12 ∧ ∀ a ∈ preS (2 * m + 1) m, a.length ≤ 8 := by decide
theorem shapesEven (n : Int) (h : n.tmod 2 = 0) : PSpec Tryz.prog 29 [.int .i64 n] (fun u => u = .nilsl) := by
 refine PSpec.intro tt_ok mx_ok Tryz.func29 rfl (by decide) ?_; (conv => whnf)
 repeat' first | (refine at_ ?_; conv => whnf) | (refine cmpI (fun _ => ?_) (fun _ => ?_) <;> conv => whnf)
 ·exact ⟨rfl, rfl⟩
 all_goals exact absurd h (by assumption)
theorem shapesOdd : ∀ m : Nat, m ≤ 3 → PSpec Tryz.prog 29 [.int .i64 ((2 * m + 1 : Nat) : Int)] (fun u => u = .sl [] encL (shpT (2 * m + 1))) := by
 intro m
 induction m using Nat.strongRecOn with
 | _ m ih =>
  intro hm
  have hodd : ((2 * m + 1 : Nat) : Int).tmod 2 = 1 := by
   rw [Int.tmod_eq_emod_of_nonneg (by omega)]; omega
  refine PSpec.intro tt_ok mx_ok Tryz.func29 rfl (by decide) ?_; (conv => whnf)
  refine needI (by decide) ?_
  conv => whnf
  refine cmpF (by rw [hodd]; decide) ?_
  conv => whnf
  by_cases h0 : m = 0
  ·subst h0
   repeat' first | (refine at_ ?_; conv => whnf) | (refine cmpI (fun _ => ?_) (fun _ => ?_) <;> conv => whnf)
   refine bldI [] encL [[0]] rfl ?_
   conv => whnf
   exact ⟨rfl, rfl⟩
  ·repeat' first | (refine at_ ?_; conv => whnf) | (refine cmpI (fun _ => ?_) (fun _ => ?_) <;> conv => whnf)
   refine WPc.loop (fun i : Nat => i ≤ m) (fun i => ((.int .i64 ((2 * m + 1 : Nat) : Int)) :: .top :: .top :: (.row 103 (preS (2 * m + 1) i).length 1) :: (.int .i64 ((2 * i + 1 : Nat) : Int)) :: T 46)) (fun i => Mem.ofL [(103, rowL (preS (2 * m + 1) i))]) (fun i => m - i) 0 (by omega) (Sub.by_ [(103, .nil 1)] _ 400 rfl ⟨rfl, trivial⟩ (auto_)) ?_
   intro i hi
   refine codeK_ok tt_ok mx_ok _ _ _ _ ?_
   conv => whnf
   repeat' first | (refine at_ ?_; conv => whnf) | (refine cmpI (fun _ => ?_) (fun _ => ?_) <;> conv => whnf)
   ·(refine oP (ih i (by omega) (by omega)) ?_; conv => whnf)
    have hA := shpT_le (n := 2 * i + 1) (by omega)
    have hB := shpT_le (n := 2 * (m - 1 - i) + 1) (by omega)
    have eB : 2 * m + 1 - 1 - (2 * i + 1) = 2 * (m - 1 - i) + 1 := by omega
    have hsucc := preS_succ (2 * m + 1) i
    have hpl := preS_len (n := 2 * m + 1) (by omega) i (by omega)
    rw [eB] at hsucc
    have ihB := ih (m - 1 - i) (by omega) (by omega)
    have eN : ((2 * m + 1 : Nat) : Int) - 1 - ((2 * i + 1 : Nat) : Int) = ((2 * (m - 1 - i) + 1 : Nat) : Int) := by omega
    generalize shpT (2 * i + 1) = A at hA hsucc ⊢
    generalize shpT (2 * (m - 1 - i) + 1) = B at hB hsucc ihB
    generalize preS (2 * m + 1) i = out at hsucc hpl ⊢
    refine WPc.loop (fun p : Nat => p ≤ A.length) (fun p => ((.int .i64 ((2 * m + 1 : Nat) : Int)) :: .top :: .top :: (.row 103 (out ++ cross (A.take p) B).length 1) :: (.int .i64 ((2 * i + 1 : Nat) : Int)) :: .top :: .top :: .top :: .top :: .top :: .top :: .top :: .top :: .top :: .top :: .top :: .top :: .top :: .top :: .top :: .top :: .top :: .top :: (.sl [] encL A) :: (.int .i64 (A.length : Int)) :: (.int .i64 (p : Int)) :: T 25)) (fun p => Mem.ofL [(103, rowL (out ++ cross (A.take p) B))]) (fun p => A.length - p) 0 (by omega) (Sub.by_ [(103, .old 103)] _ 400 rfl ⟨rowL_eq (by simp [cross]), trivial⟩ (by simp only [List.take_zero, cross, List.flatMap_nil, List.append_nil]; repeat' (first | exact True.intro | exact rfl | (refine And.intro ?_ ?_) | ((conv => whnf); omega) | ((conv => whnf); simp only [List.length_append, List.length_cons, List.length_nil]; done) | ((conv => whnf); simp only [List.length_append, List.length_cons, List.length_nil]; omega)))) ?_
    intro p hp
    refine codeK_ok tt_ok mx_ok _ _ _ _ ?_
    conv => whnf
    repeat' first | (refine at_ ?_; conv => whnf) | (refine cmpI (fun _ => ?_) (fun _ => ?_) <;> conv => whnf)
    ·rw [eN]
     (refine oP (ihB) ?_; conv => whnf)
     have hct := cross_take A B p (by omega)
     have hcl := cross_len (A.take p) B
     have hcl2 : (A.take p).length * B.length ≤ 5 * 5 := Nat.mul_le_mul (by simp; omega) hB.1
     have hal : (A.getD p []).length ≤ 8 := hA.2 _ (List.mem_of_getElem? (getD_of_lt (d := []) (l := A) (n := p) (by omega)))
     simp only [tN]
     generalize A.getD p [] = a at hct hal ⊢
     generalize cross (A.take p) B = base at hct hcl ⊢
     refine WPc.loop (fun q : Nat => q ≤ B.length) (fun q => ((.int .i64 ((2 * m + 1 : Nat) : Int)) :: .top :: .top :: (.row 103 (out ++ base ++ (B.take q).map fun b => 2 :: (a ++ b)).length 1) :: (.int .i64 ((2 * i + 1 : Nat) : Int)) :: .top :: (.sl 0 encI a) :: .top :: .top :: .top :: .top :: .top :: .top :: .top :: .top :: .top :: .top :: .top :: .top :: .top :: .top :: .top :: .top :: (.sl [] encL A) :: (.int .i64 (A.length : Int)) :: (.int .i64 (p : Int)) :: .top :: .top :: .top :: .top :: .top :: .top :: .top :: (.sl [] encL B) :: (.int .i64 (B.length : Int)) :: (.int .i64 (q : Int)) :: T 15)) (fun q => Mem.ofL [(103, rowL (out ++ base ++ (B.take q).map fun b => 2 :: (a ++ b)))]) (fun q => B.length - q) 0 (by omega) (Sub.by_ [(103, .old 103)] _ 400 rfl ⟨rowL_eq (by simp), trivial⟩ (by simp only [List.take_zero, List.map_nil, List.append_nil]; repeat' (first | exact True.intro | exact rfl | (refine And.intro ?_ ?_) | ((conv => whnf); omega) | ((conv => whnf); simp only [List.length_append, List.length_cons, List.length_nil]; done) | ((conv => whnf); simp only [List.length_append, List.length_cons, List.length_nil]; omega)))) ?_
     intro q hq
     refine codeK_ok tt_ok mx_ok _ _ _ _ ?_
     conv => whnf
     repeat' first | (refine at_ ?_; conv => whnf) | (refine cmpI (fun _ => ?_) (fun _ => ?_) <;> conv => whnf)
     ·have hbl : (B.getD q []).length ≤ 8 := hB.2 _ (List.mem_of_getElem? (getD_of_lt (d := []) (l := B) (n := q) (by omega)))
      have hmt := map_take B (fun b => 2 :: (a ++ b)) q (by omega)
      have hl3 : (out ++ base ++ (B.take q).map fun b => 2 :: (a ++ b)).length ≤ 200 := by
       simp only [List.length_append, List.length_map, List.length_take]; omega
      simp only [tN]
      generalize B.getD q [] = b at hmt hbl ⊢
      generalize hX : (out ++ base ++ (B.take q).map fun b => 2 :: (a ++ b)) = X at hl3 ⊢
      repeat' first | (refine at_ ?_; conv => whnf) | (refine cmpI (fun _ => ?_) (fun _ => ?_) <;> conv => whnf)
      refine bldI [] encL [[2] ++ a ++ b] rfl ?_
      conv => whnf
      repeat' first | (refine at_ ?_; conv => whnf) | (refine cmpI (fun _ => ?_) (fun _ => ?_) <;> conv => whnf)
      have hq1 : (out ++ base ++ (B.take (q + 1)).map fun b => 2 :: (a ++ b)) = X ++ [[2] ++ a ++ b] := by rw [hmt, ← hX]; simp
      refine ⟨q + 1, ?_, by omega, Nat.sub_lt_sub_left (by omega) (by omega)⟩
      simp only [hq1]
      exact Sub.by_ [(103, .old 46)] _ 400 rfl ⟨rfl, trivial⟩ (auto_)
     ·have hq2 : q = B.length := by omega
      have hp1 : out ++ base ++ ((B.take q).map fun b => 2 :: (a ++ b)) = out ++ cross (A.take (p + 1)) B := by
       rw [hct, hq2, List.take_length, List.append_assoc]
      rw [hp1]
      refine ⟨p + 1, ?_, by omega, Nat.sub_lt_sub_left (by omega) (by omega)⟩
      exact Sub.by_ [(103, .old 103)] _ 400 rfl ⟨rfl, trivial⟩ (auto_)
    ·have hp2 : p = A.length := by omega
     rw [hp2, List.take_length, ← hsucc]
     refine ⟨i + 1, ?_, by omega, Nat.sub_lt_sub_left (by omega) (by omega)⟩
     exact Sub.by_ [(103, .old 103)] _ 400 rfl ⟨rfl, trivial⟩ (auto_)
   ·obtain rfl : i = m := by omega
    have hsh := shpT_asc i (by simp; omega)
    refine Spec.hand 103 rfl ?_
    refine Spec.of_pure (n := 5) (tidyL (preS (2 * i + 1) i) hsh.2.2.2.1 (fun a ha => by have := hsh.2.2.2.2 a ha; omega) hsh.2.2.1) rfl ?_
    rintro _ ⟨l', rfl, hp, ha⟩
    conv => whnf
    rw [asc_unique ha hsh.1 (hp.trans hsh.2.1.symm)]
    exact ⟨rfl, rfl⟩
set_option maxRecDepth 10000
set_option maxHeartbeats 2000000
theorem PSpec.sub {P : Program} {f : FuncId} {args : List AV} {R R' : AV → Prop} (h : PSpec P f args R) (hr : ∀ u, R u → ∃ u', R' u' ∧ avR [] 20 u u' ∧ persN 5 u' = true) : PSpec P f args R' := by
 rw [PSpec_iff] at *
 refine ⟨h.1, fun S F vs w h0 h1 h2 h3 hv => (h.2 S F vs w h0 h1 h2 h3 hv).mono ?_⟩
 rintro e w' ⟨v, u, S', a, b, c, d, e', f', g, hw⟩
 obtain ⟨u', hu', hav, hp⟩ := hr u b
 have := (avR_ok (S := S') (ρ := fun _ => none) (lm := []) 20).1 u u' v hav (.p g)
 exact ⟨v, u', S', a, hu', c, d, e', f', persN_ok 5 hp this, hw⟩
theorem preS_shpT : ∀ m ∈ [1, 2, 3], preS (2 * m + 1) m = shpT (2 * m + 1) := by decide
theorem refShapesOdd : ∀ m : Nat, m ≤ 3 → PSpec Tryz.prog 82 [.int .i64 ((2 * m + 1 : Nat) : Int)] (fun u => u = .sl [] encL (shpT (2 * m + 1))) := by
 intro m
 induction m using Nat.strongRecOn with
 | _ m ih =>
  intro hm
  refine PSpec.intro tt_ok mx_ok Tryz.func82 rfl (by decide) ?_; (conv => whnf)
  by_cases h0 : m = 0
  ·subst h0
   repeat' first | (refine at_ ?_; conv => whnf) | (refine cmpI (fun _ => ?_) (fun _ => ?_) <;> conv => whnf)
   refine bldI [] encL [[0]] rfl ?_
   conv => whnf
   exact ⟨rfl, rfl⟩
  ·repeat' first | (refine at_ ?_; conv => whnf) | (refine cmpI (fun _ => ?_) (fun _ => ?_) <;> conv => whnf)
   refine WPc.loop (fun i : Nat => i ≤ m) (fun i => ((.int .i64 ((2 * m + 1 : Nat) : Int)) :: .top :: .top :: (.row 103 (preS (2 * m + 1) i).length 1) :: (.int .i64 ((2 * i + 1 : Nat) : Int)) :: T 50)) (fun i => Mem.ofL [(103, rowL (preS (2 * m + 1) i))]) (fun i => m - i) 0 (by omega) (Sub.by_ [(103, .nil 1)] _ 400 rfl ⟨rfl, trivial⟩ (auto_)) ?_
   intro i hi
   refine codeK_ok tt_ok mx_ok _ _ _ _ ?_
   conv => whnf
   repeat' first | (refine at_ ?_; conv => whnf) | (refine cmpI (fun _ => ?_) (fun _ => ?_) <;> conv => whnf)
   ·(refine oP (ih i (by omega) (by omega)) ?_; conv => whnf)
    repeat' first | (refine at_ ?_; conv => whnf) | (refine cmpI (fun _ => ?_) (fun _ => ?_) <;> conv => whnf)
    have hA := shpT_le (n := 2 * i + 1) (by omega)
    have hB := shpT_le (n := 2 * (m - 1 - i) + 1) (by omega)
    have eB : 2 * m + 1 - 1 - (2 * i + 1) = 2 * (m - 1 - i) + 1 := by omega
    have hsucc := preS_succ (2 * m + 1) i
    have hpl := preS_len (n := 2 * m + 1) (by omega) i (by omega)
    rw [eB] at hsucc
    have ihB := ih (m - 1 - i) (by omega) (by omega)
    have eN : ((2 * m + 1 : Nat) : Int) - 1 - ((2 * i + 1 : Nat) : Int) = ((2 * (m - 1 - i) + 1 : Nat) : Int) := by omega
    rw [eN]
    (refine oP (ihB) ?_; conv => whnf)
    generalize shpT (2 * i + 1) = A at hA hsucc ⊢
    generalize shpT (2 * (m - 1 - i) + 1) = B at hB hsucc ⊢
    generalize preS (2 * m + 1) i = out at hsucc hpl ⊢
    refine WPc.loop (fun p : Nat => p ≤ A.length) (fun p => ((.int .i64 ((2 * m + 1 : Nat) : Int)) :: .top :: .top :: (.row 103 (out ++ cross (A.take p) B).length 1) :: (.int .i64 ((2 * i + 1 : Nat) : Int)) :: (.sl [] encL A) :: (.sl [] encL B) :: (.int .i64 (p : Int)) :: T 47)) (fun p => Mem.ofL [(103, rowL (out ++ cross (A.take p) B))]) (fun p => A.length - p) 0 (by omega) (Sub.by_ [(103, .old 103)] _ 400 rfl ⟨rowL_eq (by simp [cross]), trivial⟩ (by simp only [List.take_zero, cross, List.flatMap_nil, List.append_nil]; repeat' (first | exact True.intro | exact rfl | (refine And.intro ?_ ?_) | ((conv => whnf); omega) | ((conv => whnf); simp only [List.length_append, List.length_cons, List.length_nil]; done) | ((conv => whnf); simp only [List.length_append, List.length_cons, List.length_nil]; omega)))) ?_
    intro p hp
    refine codeK_ok tt_ok mx_ok _ _ _ _ ?_
    conv => whnf
    repeat' first | (refine at_ ?_; conv => whnf) | (refine cmpI (fun _ => ?_) (fun _ => ?_) <;> conv => whnf)
    ·have hct := cross_take A B p (by omega)
     have hcl := cross_len (A.take p) B
     have hcl2 : (A.take p).length * B.length ≤ 5 * 5 := Nat.mul_le_mul (by simp; omega) hB.1
     have hal : (A.getD p []).length ≤ 8 := hA.2 _ (List.mem_of_getElem? (getD_of_lt (d := []) (l := A) (n := p) (by omega)))
     generalize cross (A.take p) B = base at hct hcl ⊢
     refine WPc.loop (fun q : Nat => q ≤ B.length) (fun q => ((.int .i64 ((2 * m + 1 : Nat) : Int)) :: .top :: .top :: (.row 103 (out ++ base ++ (B.take q).map fun b => 2 :: (A.getD p [] ++ b)).length 1) :: (.int .i64 ((2 * i + 1 : Nat) : Int)) :: (.sl [] encL A) :: (.sl [] encL B) :: (.int .i64 (p : Int)) :: (.int .i64 (q : Int)) :: T 46)) (fun q => Mem.ofL [(103, rowL (out ++ base ++ (B.take q).map fun b => 2 :: (A.getD p [] ++ b)))]) (fun q => B.length - q) 0 (by omega) (Sub.by_ [(103, .old 103)] _ 400 rfl ⟨rowL_eq (by simp), trivial⟩ (by simp only [List.take_zero, List.map_nil, List.append_nil]; repeat' (first | exact True.intro | exact rfl | (refine And.intro ?_ ?_) | ((conv => whnf); omega) | ((conv => whnf); simp only [List.length_append, List.length_cons, List.length_nil]; done) | ((conv => whnf); simp only [List.length_append, List.length_cons, List.length_nil]; omega)))) ?_
     intro q hq
     refine codeK_ok tt_ok mx_ok _ _ _ _ ?_
     conv => whnf
     refine cmpI (fun h3 => ?_) (fun h3 => ?_) <;> conv => whnf
     ·have hbl : (B.getD q []).length ≤ 8 := hB.2 _ (List.mem_of_getElem? (getD_of_lt (d := []) (l := B) (n := q) (by omega)))
      have hmt := map_take B (fun b => 2 :: (A.getD p [] ++ b)) q (by omega)
      have hl3 : (out ++ base ++ (B.take q).map fun b => 2 :: (A.getD p [] ++ b)).length ≤ 200 := by
       simp only [List.length_append, List.length_map, List.length_take]; omega
      generalize hX : (out ++ base ++ (B.take q).map fun b => 2 :: (A.getD p [] ++ b)) = X at hl3 ⊢
      refine nI ?_
      conv => whnf
      simp only [tN]
      repeat' first | (refine at_ ?_; conv => whnf) | (refine cmpI (fun _ => ?_) (fun _ => ?_) <;> conv => whnf)
      simp only [tN]
      repeat' first | (refine at_ ?_; conv => whnf) | (refine cmpI (fun _ => ?_) (fun _ => ?_) <;> conv => whnf)
      refine bldI [] encL [[2] ++ A.getD p [] ++ B.getD q []] rfl ?_
      conv => whnf
      repeat' first | (refine at_ ?_; conv => whnf) | (refine cmpI (fun _ => ?_) (fun _ => ?_) <;> conv => whnf)
      have hq1 : (out ++ base ++ (B.take (q + 1)).map fun b => 2 :: (A.getD p [] ++ b)) = X ++ [[2] ++ A.getD p [] ++ B.getD q []] := by rw [hmt, ← hX]; simp
      refine ⟨q + 1, ?_, by omega, Nat.sub_lt_sub_left (by omega) (by omega)⟩
      simp only [hq1]
      exact Sub.by_ [(103, .old 53)] _ 400 rfl ⟨rfl, trivial⟩ (auto_)
     ·have hq2 : q = B.length := by omega
      have hp1 : out ++ base ++ ((B.take q).map fun b => 2 :: (A.getD p [] ++ b)) = out ++ cross (A.take (p + 1)) B := by
       rw [hct, hq2, List.take_length, List.append_assoc]
      rw [hp1]
      repeat' first | (refine at_ ?_; conv => whnf) | (refine cmpI (fun _ => ?_) (fun _ => ?_) <;> conv => whnf)
      refine ⟨p + 1, ?_, by omega, Nat.sub_lt_sub_left (by omega) (by omega)⟩
      exact Sub.by_ [(103, .old 103)] _ 400 rfl ⟨rfl, trivial⟩ (auto_)
    ·have hp2 : p = A.length := by omega
     rw [hp2, List.take_length, ← hsucc]
     refine ⟨i + 1, ?_, by omega, Nat.sub_lt_sub_left (by omega) (by omega)⟩
     exact Sub.by_ [(103, .old 103)] _ 400 rfl ⟨rfl, trivial⟩ (auto_)
   ·obtain rfl : i = m := by omega
    rw [preS_shpT i (by simp; omega)]
    exact ⟨rfl, rfl⟩
set_option maxRecDepth 10000
set_option maxHeartbeats 2000000
theorem sortIntsAsc (l : List (List Int)) (hn : l.length ≤ 4611686018427387904) (hb : ∀ a ∈ l, a.length ≤ 4611686018427387904) (ha : Asc l) : PSpec Tryz.prog 83 [.sl [] encL l] (fun u => u = .tup []) := by
 refine PSpec.intro tt_ok mx_ok Tryz.func83 rfl (by decide) ?_; (conv => whnf)
 refine WPc.loop (fun i : Nat => 1 ≤ i ∧ i ≤ l.length + 1) (fun i => ((.sl [] encL l) :: .top :: (.int .i64 (i : Int)) :: T 41)) (fun _ => Mem.ofL []) (fun i => l.length + 1 - i) 1 ⟨by omega, by omega⟩ (Sub.by_ [] [] 400 rfl trivial auto_) ?_
 rintro i ⟨h1, h2⟩
 refine codeK_ok tt_ok mx_ok _ _ _ _ ?_
 conv => whnf
 refine cmpI (fun h3 => ?_) (fun h3 => ?_) <;> conv => whnf
 ·refine WPc.loop (fun _ : Nat => True) (fun _ => ((.sl [] encL l) :: .top :: (.int .i64 (i : Int)) :: (.int .i64 (i : Int)) :: T 40)) (fun _ => Mem.ofL []) (fun _ => 0) 0 trivial (Sub.by_ [] [] 400 rfl trivial auto_) ?_
  intro _ _
  refine codeK_ok tt_ok mx_ok _ _ _ _ ?_
  conv => whnf
  repeat' first | (refine at_ ?_; conv => whnf) | (refine cmpI (fun _ => ?_) (fun _ => ?_) <;> conv => whnf)
  have e3 : ((i : Int) - 1).toNat = i - 1 := by omega
  have hi : l.getD (i - 1) [] ∈ l := List.mem_of_getElem? (getD_of_lt (d := []) (l := l) (n := i - 1) (by omega))
  have hc : cmpL (l.getD (i - 1) []) (l.getD i []) < 0 := by
   have h4 := List.pairwise_iff_getElem.1 ha (i - 1) i (by omega) (by omega) (by omega)
   have e1 : l.getD i [] = l[i] := by simp [List.getD, show i < l.length from by omega]
   have e2 : l.getD (i - 1) [] = l[i - 1] := by simp [List.getD, show i - 1 < l.length from by omega]
   rw [e1, e2]; exact h4
  simp only [tN, e3]
  refine callPI 5 (refCompareInts (l.getD (i - 1) []) (l.getD i []) (hb _ hi)) rfl ⟨_, rfl⟩ ?_
  rintro _ rfl
  conv => whnf
  repeat' first | (refine at_ ?_; conv => whnf) | (refine cmpI (fun _ => ?_) (fun _ => ?_) <;> conv => whnf)
  exact ⟨i + 1, (Sub.by_ [] [] 400 rfl trivial auto_), ⟨by omega, by omega⟩, Nat.sub_lt_sub_left (by omega) (by omega)⟩
 ·exact ⟨rfl, rfl⟩
theorem oddEven (n : Nat) (h : n ≤ 8) : (((n : Int).tmod 2 = 0) ∧ shpT n = []) ∨ ∃ m, m ≤ 3 ∧ n = 2 * m + 1 ∧ (n : Int).tmod 2 ≠ 0 := by
 have : n = 0 ∨ n = 1 ∨ n = 2 ∨ n = 3 ∨ n = 4 ∨ n = 5 ∨ n = 6 ∨ n = 7 ∨ n = 8 := by omega
 rcases this with rfl | rfl | rfl | rfl | rfl | rfl | rfl | rfl | rfl
 ·left; decide
 ·right; exact ⟨0, by decide⟩
 ·left; decide
 ·right; exact ⟨1, by decide⟩
 ·left; decide
 ·right; exact ⟨2, by decide⟩
 ·left; decide
 ·right; exact ⟨3, by decide⟩
 ·left; decide
def shapesR (n : Int) : AV := if 1 ≤ n ∧ n ≤ 8 then .tup [.sl [] encL (shpT n.toNat), .int .i64 0] else .tup [.sl [] encL [], .int .i64 1]
theorem shapesR_in {n : Int} (h : 1 ≤ n ∧ n ≤ 8) : shapesR n = .tup [.sl [] encL (shpT n.toNat), .int .i64 0] := if_pos h
theorem shapesR_out {n : Int} (h : ¬ (1 ≤ n ∧ n ≤ 8)) : shapesR n = .tup [.sl [] encL [], .int .i64 1] := if_neg h
theorem unfoldShapesF (n : Int) : PSpec Tryz.prog 14 [.int .i64 n] (fun u => u = shapesR n) := by
 by_cases h : 1 ≤ n ∧ n ≤ 8
 ·rw [shapesR_in h]
  obtain ⟨k, rfl⟩ := Int.eq_ofNat_of_zero_le (show 0 ≤ n by omega)
  rcases oddEven k (by omega) with ⟨he, hs⟩ | ⟨m, hm, rfl, _⟩
  ·rw [tN, hs]
   refine PSpec.sub (R := fun u => u = .tup [.nilsl, .int .i64 0]) ?_ (by rintro _ rfl; exact ⟨_, rfl, (auto_), rfl⟩)
   refine PSpec.intro tt_ok mx_ok Tryz.func14 rfl (by decide) ?_; (conv => whnf)
   repeat' first | (refine at_ ?_; conv => whnf) | (refine cmpI (fun _ => ?_) (fun _ => ?_) <;> conv => whnf)
   (refine oP (shapesEven _ he) ?_; conv => whnf)
   exact ⟨rfl, rfl⟩
  ·rw [tN]
   refine PSpec.intro tt_ok mx_ok Tryz.func14 rfl (by decide) ?_; (conv => whnf)
   repeat' first | (refine at_ ?_; conv => whnf) | (refine cmpI (fun _ => ?_) (fun _ => ?_) <;> conv => whnf)
   (refine oP (shapesOdd m hm) ?_; conv => whnf)
   exact ⟨rfl, rfl⟩
 ·rw [shapesR_out h]
  refine PSpec.sub (R := fun u => u = .tup [.nilsl, .int .i64 1]) ?_ (by rintro _ rfl; exact ⟨_, rfl, (auto_), rfl⟩)
  refine PSpec.intro tt_ok mx_ok Tryz.func14 rfl (by decide) ?_; (conv => whnf)
  repeat' first | (refine at_ ?_; conv => whnf) | (refine cmpI (fun _ => ?_) (fun _ => ?_) <;> conv => whnf)
  ·exact ⟨rfl, rfl⟩
  ·exact ⟨rfl, rfl⟩
theorem neighborsRing (s : AV) (count i : Int) (h0 : 0 ≤ i) (h1 : i < count) (hc : count ≤ 9223372036854775807) : PSpec Tryz.prog 13 [.int .i64 3, s, .int .i64 count, .int .i64 i]
  (fun u => u = .tup [.int .i64 (if i - 1 < 0 then count - 1 else i - 1), .int .i64 (if i + 1 = count then 0 else i + 1), .int .i64 (-1)]) := by
 refine PSpec.intro tt_ok mx_ok Tryz.func13 rfl (by decide) ?_; (conv => whnf)
 repeat' first | (refine at_ ?_; conv => whnf) | (refine cmpI (fun _ => ?_) (fun _ => ?_) <;> conv => whnf)
 all_goals (simp_all [tupOf, persN]; try omega)
end Go.Proofs.YtaeomngmcfdfpaaGreatDoor
set_option maxRecDepth 100000
namespace Go.Proofs.YtaeomngmcfdfpaaGreatDoor
theorem shp5 : (shpT (Int.toNat 5)).length = 2 := by decide
theorem shp5' : (shpT (Int.toNat 5)).getD (Int.toNat 0) [] = [2, 0, 2, 0, 0] := by decide
theorem knownF : PSpec Tryz.prog 6 [] (fun u => u = .bool true) := by
 have hs := unfoldShapesF 5
 rw [shapesR_in (by decide)] at hs
 have hn := neighborsRing .nilsl 2 0 (by decide) (by decide) (by decide)
 simp only [show ((0:Int) - 1 < 0) = True from by simp, if_true, show (2:Int) - 1 = 1 from rfl, show (0:Int) + 1 = 1 from rfl, show ((1:Int) = 2) = False from by simp, if_false] at hn
 refine PSpec.intro tt_ok mx_ok Tryz.func6 rfl (by decide) ?_; (conv => whnf)
 (refine oP (hn) ?_; conv => whnf)
 (refine oP (hs) ?_; conv => whnf)
 repeat' first | (refine at_ ?_; conv => whnf) | (refine cmpI (fun _ => ?_) (fun _ => ?_) <;> conv => whnf)
 ·rw [shp5']
  refine Spec.hand 38 rfl ?_
  (refine oP (refSameInts [2, 0, 2, 0, 0] [2, 0, 2, 0, 0] (by decide)) ?_; conv => whnf)
  exact ⟨rfl, rfl⟩
 ·rename_i h
  exact absurd (congrArg Int.ofNat shp5) h
set_option maxRecDepth 100000
def shpB : Int → List Int → Bool
 | n, [] => decide (n = 0)
 | n, x :: xs => if n = 0 then false else if x ≠ 0 ∧ x ≠ 2 then false else shpB (n + (x - 1)) xs
theorem drop_at {l : List Int} {i : Nat} (h : i < l.length) : l.drop i = l.getD i 0 :: l.drop (i + 1) := by
 rw [List.drop_eq_getElem_cons h, gD, gL h]
 rfl
theorem isShapeF (l : List Int) (hl : l.length ≤ 1000) : PSpec Tryz.prog 93 [.sl 0 encI l] (fun u => u = .bool (shpB 1 l)) := by
 refine PSpec.intro tt_ok mx_ok Tryz.func93 rfl (by decide) ?_; (conv => whnf)
 refine WPc.loop (fun x : Nat × Int => x.1 ≤ l.length ∧ -1 - x.1 ≤ x.2 ∧ x.2 ≤ 1 + x.1 ∧ shpB 1 l = shpB x.2 (l.drop x.1)) (fun x => ((.sl 0 encI l) :: .top :: .top :: (.int .i64 x.2) :: (.int .i64 (x.1 : Int)) :: T 31)) (fun _ => Mem.ofL []) (fun x => l.length - x.1) (0, 1) (by simp) (Sub.by_ [] [] 400 rfl trivial auto_) ?_
 rintro ⟨i, n⟩ ⟨hi, h1, h2, hs⟩
 dsimp only at hi h1 h2 hs
 refine codeK_ok tt_ok mx_ok _ _ _ _ ?_
 conv => whnf
 repeat' first | (refine at_ ?_; conv => whnf) | (refine cmpI (fun _ => ?_) (fun _ => ?_) <;> conv => whnf)
 ·rename_i hlt h0
  dsimp only at hlt h0
  rw [hs, drop_at (by omega), shpB, if_pos h0]
  exact ⟨rfl, rfl⟩
 ·rename_i hlt h0 ha hb
  dsimp only at hlt h0
  rw [tN] at ha hb
  rw [hs, drop_at (by omega), shpB, if_neg h0, if_pos ⟨ha, hb⟩]
  exact ⟨rfl, rfl⟩
 ·rename_i hlt h0 ha hb
  dsimp only at hlt h0
  rw [tN] at ha hb
  have hb' : l.getD i 0 = 2 := by simpa using hb
  refine ⟨(i + 1, n + (l.getD i 0 - 1)), (Sub.by_ [] [] 400 rfl trivial auto_), ⟨by omega, by dsimp only; omega, by dsimp only; omega, ?_⟩, Nat.sub_lt_sub_left (by dsimp only; omega) (by dsimp only; omega)⟩
  dsimp only
  rw [hs, drop_at (by omega), shpB, if_neg h0, if_neg (by rw [hb']; decide)]
 ·rename_i hlt h0 ha
  dsimp only at hlt h0
  rw [tN] at ha
  have hb' : l.getD i 0 = 0 := by simpa using ha
  refine ⟨(i + 1, n + (l.getD i 0 - 1)), (Sub.by_ [] [] 400 rfl trivial auto_), ⟨by omega, by dsimp only; omega, by dsimp only; omega, ?_⟩, Nat.sub_lt_sub_left (by dsimp only; omega) (by dsimp only; omega)⟩
  dsimp only
  rw [hs, drop_at (by omega), shpB, if_neg h0, if_neg (by rw [hb']; decide)]
 ·rename_i hlt h0
  dsimp only at hlt h0
  rw [hs, List.drop_eq_nil_of_le (by omega), shpB, decide_eq_true h0]
  exact ⟨rfl, rfl⟩
 ·rename_i hlt h0
  dsimp only at hlt h0
  rw [hs, List.drop_eq_nil_of_le (by omega), shpB, decide_eq_false h0]
  exact ⟨rfl, rfl⟩
def zt : Nat → List (List Int)
 | 0 => [[]]
 | n + 1 => (zt n).map (0 :: ·) ++ (zt n).map (2 :: ·)
theorem mem_zt : ∀ (l : List Int) (n : Int), shpB n l = true → l ∈ zt l.length
 | [], _, _ => by simp [zt]
 | x :: xs, n, h => by
  rw [shpB] at h
  split at h
  ·cases h
  ·split at h
   ·cases h
   ·rename_i hx
    have := mem_zt xs _ h
    have hx : x = 0 ∨ x = 2 := by omega
    simp only [zt, List.length_cons, List.mem_append, List.mem_map]
    rcases hx with rfl | rfl
    ·exact .inl ⟨xs, this, rfl⟩
    ·exact .inr ⟨xs, this, rfl⟩
theorem zt_shp : ((List.range 9).all fun k => (zt k).all fun l => !shpB 1 l || (shpT k).contains l || k == 0) = true := by kernel_rfl
theorem shp_zt : ((List.range 9).all fun k => (shpT k).all fun l => shpB 1 l && l.length == k) = true := by kernel_rfl
theorem shpMem {l : List Int} (h1 : 1 ≤ l.length) (h8 : l.length ≤ 8) : shpB 1 l = decide (l ∈ shpT l.length) := by
 cases h : shpB 1 l with
 | true =>
  have := mem_zt l 1 h
  have k := zt_shp
  rw [List.all_eq_true] at k
  have k := k l.length (by simp; omega)
  rw [List.all_eq_true] at k
  have k := k l this
  simp only [h, Bool.not_true, Bool.false_or, Bool.or_eq_true, beq_iff_eq, List.contains_iff_mem] at k
  rcases k with k | k
  ·rw [decide_eq_true k]
  ·omega
 | false =>
  symm
  rw [decide_eq_false_iff_not]
  intro hm
  have k := shp_zt
  rw [List.all_eq_true] at k
  have k := k l.length (by simp; omega)
  rw [List.all_eq_true] at k
  have k := k l hm
  simp [h] at k
theorem shpEl {k : Nat} (h : k ≤ 8) {a : List Int} (ha : a ∈ shpT k) : shpB 1 a = true ∧ a.length = k := by
 have e := shp_zt
 rw [List.all_eq_true] at e
 have e := e k (by simp; omega)
 rw [List.all_eq_true] at e
 have e := e a ha
 simpa using e
end Go.Proofs.YtaeomngmcfdfpaaGreatDoor
