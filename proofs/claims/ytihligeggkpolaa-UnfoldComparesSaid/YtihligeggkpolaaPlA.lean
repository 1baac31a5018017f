/-
  Plain facts on lists: insertion, sorted lists.
-/
import Derived.Test.YtihligeggkpolaaFnA
namespace Go.Proofs.Ytihligeggkpolaa

theorem row_eq {α : Type} {t : TypeId} {d : α} {enc : α → List AV} {l l' : List α} (h : l = l') : Blk.row t d enc l = Blk.row t d enc l' := by rw [h]
theorem sl_eq {α : Type} {d : α} {enc : α → List AV} {l l' : List α} (h : l = l') : AV.sl d enc l = AV.sl d enc l' := by rw [h]

/-- the list while x is carried to its place -/
def mid {α : Type} (S : List α) (j : Nat) (x : α) (r : List α) : List α := S.take j ++ x :: (S.drop j ++ r)
theorem mid_split {α : Type} {S : List α} {j : Nat} (x : α) (r : List α) (h0 : 0 < j) (h1 : j ≤ S.length) :
    mid S j x r = S.take (j - 1) ++ S[j - 1] :: x :: (S.drop j ++ r) ∧ mid S (j - 1) x r = S.take (j - 1) ++ x :: S[j - 1] :: (S.drop j ++ r) := by
  obtain ⟨m, rfl⟩ : ∃ m, j = m + 1 := ⟨j - 1, by omega⟩
  simp only [Nat.add_sub_cancel]
  unfold mid
  have e1 : S.take (m + 1) = S.take m ++ [S[m]] := List.take_succ_eq_append_getElem (by omega)
  have e2 : S.drop m = S[m] :: S.drop (m + 1) := List.drop_eq_getElem_cons (by omega)
  constructor
  · rw [e1, List.append_assoc]; rfl
  · rw [e2]; rfl
theorem mid_length {α : Type} {S : List α} {j : Nat} (x : α) (r : List α) : (mid S j x r).length = S.length + 1 + r.length := by
  unfold mid; simp; omega
theorem mid_at {α : Type} {S : List α} {j : Nat} (x : α) (r : List α) (d : α) (h1 : j ≤ S.length) : (mid S j x r).getD j d = x := by
  unfold mid
  rw [List.getD_eq_getElem?_getD, List.getElem?_append_right (by simp; omega)]
  simp [show min j S.length = j from by omega]
theorem mid_before {α : Type} {S : List α} {j : Nat} (x : α) (r : List α) (d : α) (h0 : 0 < j) (h1 : j ≤ S.length) : (mid S j x r).getD (j - 1) d = S[j - 1] := by
  rw [(mid_split x r h0 h1).1, List.getD_eq_getElem?_getD, List.getElem?_append_right (by simp; omega)]
  simp [show min (j - 1) S.length = j - 1 from by omega]
theorem set_at {α : Type} (A B : List α) (x y : α) : (A ++ x :: B).set A.length y = A ++ y :: B := by
  simp
theorem mid_swap {α : Type} {S : List α} {j : Nat} (x : α) (r : List α) (h0 : 0 < j) (h1 : j ≤ S.length) : ((mid S j x r).set j S[j - 1]).set (j - 1) x = mid S (j - 1) x r := by
  obtain ⟨e1, e2⟩ := mid_split x r h0 h1
  rw [e1, e2]
  have hl : (S.take (j - 1)).length = j - 1 := by simp; omega
  have a1 : (S.take (j - 1) ++ S[j - 1] :: x :: (S.drop j ++ r)).set j S[j - 1] = S.take (j - 1) ++ S[j - 1] :: S[j - 1] :: (S.drop j ++ r) := by
    have := set_at (S.take (j - 1) ++ [S[j - 1]]) (S.drop j ++ r) x S[j - 1]
    rw [List.length_append, hl] at this
    simp only [List.length_cons, List.length_nil, List.append_assoc, List.cons_append, List.nil_append] at this
    rw [show j - 1 + (0 + 1) = j from by omega] at this
    exact this
  rw [a1]
  have := set_at (S.take (j - 1)) (S[j - 1] :: (S.drop j ++ r)) S[j - 1] x
  rw [hl] at this
  exact this
theorem mid_perm {α : Type} (S : List α) (j : Nat) (x : α) (r : List α) : (mid S j x r).Perm (S ++ x :: r) := by
  unfold mid
  have : (S ++ x :: r) = S.take j ++ (S.drop j ++ x :: r) := by rw [← List.append_assoc, List.take_append_drop]
  rw [this]
  refine List.Perm.append_left _ ?_
  exact List.perm_middle.symm

/-- a comparison that orders -/
structure Ord (α : Type) (c : α → α → Int) : Prop where
  anti : ∀ a b, c a b < 0 → c b a > 0
  anti' : ∀ a b, c a b > 0 → c b a < 0
  trans : ∀ a b d, c a b ≤ 0 → c b d ≤ 0 → c a d ≤ 0
def Srt {α : Type} (c : α → α → Int) (l : List α) : Prop := l.Pairwise fun a b => c a b ≤ 0

theorem mid_sorted {α : Type} {c : α → α → Int} (hc : Ord α c) {S : List α} (hS : Srt c S) {j : Nat} (hj : j ≤ S.length) (x : α) (h1 : ∀ s ∈ S.drop j, c x s < 0) (h2 : ∀ (h : 0 < j), ¬ c x (S[j - 1]'(by omega)) < 0) : Srt c (mid S j x []) := by
  unfold mid Srt
  have hsplit : S.take j ++ S.drop j = S := List.take_append_drop j S
  unfold Srt at hS
  rw [← hsplit, List.pairwise_append] at hS
  obtain ⟨hA, hB, hAB⟩ := hS
  have hlast : ∀ a ∈ S.take j, c a x ≤ 0 := by
    intro a ha
    by_cases h0 : 0 < j
    · have hx := h2 h0
      have hlx : c S[j - 1] x ≤ 0 := by
        by_cases hh : c S[j - 1] x ≤ 0
        · exact hh
        · exact absurd (hc.anti' _ _ (by omega)) hx
      have e1 : S.take j = S.take (j - 1) ++ [S[j - 1]] := by
        obtain ⟨m, rfl⟩ : ∃ m, j = m + 1 := ⟨j - 1, by omega⟩
        exact List.take_succ_eq_append_getElem (by omega)
      rw [e1] at ha hA
      rcases List.mem_append.1 ha with ha | ha
      · rw [List.pairwise_append] at hA
        exact hc.trans _ _ _ (hA.2.2 a ha _ (by simp)) hlx
      · simp at ha; subst ha; exact hlx
    · have : j = 0 := by omega
      subst this; simp at ha
  rw [List.pairwise_append]
  refine ⟨hA, ?_, ?_⟩
  · rw [List.append_nil, List.pairwise_cons]
    exact ⟨fun s hs => by have := h1 s hs; omega, hB⟩
  · intro a ha b hb
    rcases List.mem_cons.1 hb with rfl | hb
    · exact hlast a ha
    · rw [List.append_nil] at hb; exact hAB a ha b hb

theorem cmpL_ord : Ord (List Int) cmpL where
  anti := by
    intro a
    induction a with
    | nil => intro b h; cases b <;> simp_all [cmpL]
    | cons x xs ih =>
      intro b h
      cases b with
      | nil => simp [cmpL] at h
      | cons y ys =>
        simp only [cmpL] at *
        by_cases a : x < y
        · simp [a, show ¬ y < x from by omega]
        · by_cases b : y < x
          · simp [a, b] at h
          · simp only [a, b, if_false] at *; exact ih ys h
  anti' := by
    intro a
    induction a with
    | nil => intro b h; cases b <;> simp_all [cmpL]
    | cons x xs ih =>
      intro b h
      cases b with
      | nil => simp [cmpL]
      | cons y ys =>
        simp only [cmpL] at *
        by_cases a : x < y
        · simp [a] at h
        · by_cases b : y < x
          · simp [b]
          · simp only [a, b, if_false] at *; exact ih ys h
  trans := by
    intro a
    induction a with
    | nil => intro b d _ h2; cases d <;> simp [cmpL]
    | cons x xs ih =>
      intro b d h1 h2
      cases b with
      | nil => simp [cmpL] at h1
      | cons y ys =>
        cases d with
        | nil => simp [cmpL] at h2
        | cons z zs =>
          simp only [cmpL] at *
          by_cases a1 : x < y
          · by_cases b1 : y < z
            · simp [show x < z from by omega]
            · by_cases b2 : z < y
              · simp [b1, b2] at h2
              · simp [show x < z from by omega]
          · by_cases a2 : y < x
            · simp [a1, a2] at h1
            · by_cases b1 : y < z
              · simp [show x < z from by omega]
              · by_cases b2 : z < y
                · simp [b1, b2] at h2
                · have e1 : ¬ x < z := by omega
                  have e2 : ¬ z < x := by omega
                  simp only [a1, a2, b1, b2, e1, e2, if_false] at *
                  exact ih ys zs h1 h2
theorem cmpL_eq : ∀ {a b : List Int}, cmpL a b = 0 → a = b
  | [], [], _ => rfl
  | [], _ :: _, h => by simp [cmpL] at h
  | _ :: _, [], h => by simp [cmpL] at h
  | x :: xs, y :: ys, h => by
    simp only [cmpL] at h
    by_cases a : x < y
    · simp [a] at h
    · by_cases b : y < x
      · simp [a, b] at h
      · simp only [a, b, if_false] at h
        rw [cmpL_eq h, show x = y from by omega]
theorem cmpL_self : ∀ (a : List Int), cmpL a a = 0
  | [] => rfl
  | x :: xs => by simp [cmpL, cmpL_self xs]

end Go.Proofs.Ytihligeggkpolaa
