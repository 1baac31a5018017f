import Derived.Test.YtfoplfpbjajljaaDoorFtD
set_option linter.unusedVariables false
set_option linter.unusedSimpArgs false
namespace Go.Proofs.YtfoplfpbjajljaaDoor
set_option maxRecDepth 100000
section
variable (k : Int → Int)
def kLt (a b : Int) : Prop := k a < k b ∨ (k a = k b ∧ a < b)
def ordK (ns n : Nat) : List Int := (List.range ns).flatMap fun x : Nat => ((List.range n).filter fun r : Nat => decide (k (r : Int) = (x : Int))).map fun r : Nat => (r : Int)
end
section
variable {k : Int → Int}
theorem pw_ext : ∀ {l m : List Int}, l.Pairwise (kLt k) → m.Pairwise (kLt k) → (∀ x, x ∈ l ↔ x ∈ m) → l = m
 |[], [], _, _, _ => rfl
 |[], b :: m, _, _, h => by have := (h b).2 List.mem_cons_self; cases this
 |a :: l, [], _, _, h => by have := (h a).1 List.mem_cons_self; cases this
 |a :: l, b :: m, h1, h2, h => by
  rw [List.pairwise_cons] at h1 h2
  have e : a = b := by
   rcases List.mem_cons.1 ((h a).1 List.mem_cons_self) with e | ha
   ·exact e
   ·rcases List.mem_cons.1 ((h b).2 List.mem_cons_self) with e | hb
    ·exact e.symm
    ·have x := h2.1 a ha
     have y := h1.1 b hb
     unfold kLt at x y
     omega
  subst e
  have irr : ¬ kLt k a a := by unfold kLt; omega
  rw [pw_ext h1.2 h2.2 fun x => ⟨fun hx => ?_, fun hx => ?_⟩]
  ·rcases List.mem_cons.1 ((h x).1 (List.mem_cons_of_mem _ hx)) with rfl | hm
   ·exact absurd (h1.1 _ hx) irr
   ·exact hm
  ·rcases List.mem_cons.1 ((h x).2 (List.mem_cons_of_mem _ hx)) with rfl | hm
   ·exact absurd (h2.1 _ hx) irr
   ·exact hm
theorem ordK_mem {ns n : Nat} (h : ∀ r : Nat, r < n → 0 ≤ k r ∧ k r < ns) (x : Int) : x ∈ ordK k ns n ↔ ∃ r : Nat, r < n ∧ x = r := by
 unfold ordK
 simp only [List.mem_flatMap, List.mem_map, List.mem_filter, List.mem_range, decide_eq_true_eq]
 constructor
 ·rintro ⟨_, _, r, ⟨hr, _⟩, rfl⟩; exact ⟨r, hr, rfl⟩
 ·rintro ⟨r, hr, rfl⟩
  have := h r hr
  exact ⟨(k r).toNat, by omega, r, ⟨hr, by omega⟩, rfl⟩
theorem ordK_pw (ns n : Nat) : (ordK k ns n).Pairwise (kLt k) := by
 unfold ordK
 rw [List.pairwise_flatMap]
 refine ⟨fun x _ => ?_, ?_⟩
 ·rw [List.pairwise_map]
  have h0 : (List.range n).Pairwise (· < ·) := List.pairwise_lt_range
  refine (List.Pairwise.filter _ h0).imp_of_mem fun {a b} ha hb hab => ?_
  have ha := (List.mem_filter.1 ha).2
  have hb := (List.mem_filter.1 hb).2
  simp only [decide_eq_true_eq] at ha hb
  unfold kLt
  omega
 ·have h0 : (List.range ns).Pairwise (· < ·) := List.pairwise_lt_range
  refine h0.imp fun {a b} hab x hx y hy => ?_
  obtain ⟨r, hr, rfl⟩ := List.mem_map.1 hx
  obtain ⟨s, hs, rfl⟩ := List.mem_map.1 hy
  have hr := (List.mem_filter.1 hr).2
  have hs := (List.mem_filter.1 hs).2
  simp only [decide_eq_true_eq] at hr hs
  unfold kLt
  omega
structure Ins (k : Int → Int) (i : Nat) (L : List Int) : Prop where
 len : L.length = i
 pw : L.Pairwise (kLt k)
 mem : ∀ x, x ∈ L ↔ ∃ r : Nat, r < i ∧ x = r
theorem Ins.one : Ins k 1 [0] := ⟨rfl, by simp, fun x => by
 rw [List.mem_singleton]
 exact ⟨fun h => ⟨0, by omega, h⟩, fun ⟨r, hr, h⟩ => by rw [h, show r = 0 by omega]; rfl⟩⟩
theorem Ins.ext {n ns : Nat} {L : List Int} (h : Ins k n L) (hk : ∀ r : Nat, r < n → 0 ≤ k r ∧ k r < ns) : L = ordK k ns n :=
 pw_ext h.pw (ordK_pw ns n) fun x => by rw [h.mem, ordK_mem hk]
theorem Ins.next {i j : Nat} {L : List Int} (h : Ins k i L) (hj : j ≤ i) (h1 : ∀ x ∈ L.drop j, k i < k x) (h2 : j = 0 ∨ k (L.getD (j - 1) 0) ≤ k i) : Ins k (i + 1) (L.take j ++ [(i : Int)] ++ L.drop j) := by
 have hl := h.len
 have hsplit : L.take j ++ L.drop j = L := List.take_append_drop j L
 have hpw : (L.take j ++ L.drop j).Pairwise (kLt k) := by rw [hsplit]; exact h.pw
 rw [List.pairwise_append] at hpw
 have hlow : ∀ x ∈ L.take j, kLt k x i := by
  intro x hx
  have hxi : x < i := by
   obtain ⟨r, hr, rfl⟩ := (h.mem x).1 (List.mem_of_mem_take hx)
   omega
  obtain ⟨a, ha, e⟩ := List.mem_take_iff_getElem.1 hx
  have hj0 : j ≠ 0 := by omega
  have h2 := h2.resolve_left hj0
  rw [getD_elem 0 (by omega)] at h2
  have hle : k x ≤ k (L[j - 1]'(by omega)) := by
   by_cases e2 : a = j - 1
   ·subst e2; rw [← e]; exact Int.le_refl _
   ·have := List.pairwise_iff_getElem.1 h.pw a (j - 1) (by omega) (by omega) (by omega)
    rw [e] at this
    unfold kLt at this
    omega
  unfold kLt
  omega
 refine ⟨?_, ?_, fun x => ?_⟩
 ·simp only [List.length_append, List.length_take, List.length_cons, List.length_nil, List.length_drop]
  omega
 ·rw [List.pairwise_append, List.pairwise_append]
  refine ⟨⟨hpw.1, by simp, fun x hx y hy => ?_⟩, hpw.2.1, fun x hx y hy => ?_⟩
  ·rw [List.mem_singleton] at hy; subst hy; exact hlow x hx
  ·rcases List.mem_append.1 hx with hx | hx
   ·exact hpw.2.2 x hx y hy
   ·rw [List.mem_singleton] at hx; subst hx
    exact .inl (h1 y hy)
 ·rw [List.mem_append, List.mem_append, List.mem_singleton]
  have hm : (x ∈ L.take j ∨ x ∈ L.drop j) ↔ x ∈ L := by rw [← List.mem_append, hsplit]
  constructor
  ·rintro ((hx | rfl) | hx)
   ·obtain ⟨r, hr, e⟩ := (h.mem x).1 (hm.1 (.inl hx)); exact ⟨r, by omega, e⟩
   ·exact ⟨i, by omega, rfl⟩
   ·obtain ⟨r, hr, e⟩ := (h.mem x).1 (hm.1 (.inr hx)); exact ⟨r, by omega, e⟩
  ·rintro ⟨r, hr, e⟩
   by_cases e2 : r = i
   ·subst e2; exact .inl (.inr e)
   ·rcases hm.2 ((h.mem x).2 ⟨r, by omega, e⟩) with hx | hx
    ·exact .inl (.inl hx)
    ·exact .inr hx
def insL (L R : List Int) (i : Int) (j : Nat) : List Int := L.take j ++ [i] ++ L.drop j ++ R
theorem insL_len {L R : List Int} {i : Int} {j : Nat} (hj : j ≤ L.length) : (insL L R i j).length = L.length + 1 + R.length := by
 unfold insL
 simp only [List.length_append, List.length_take, List.length_cons, List.length_nil, List.length_drop]
 omega
theorem insL_top (L R : List Int) (i : Int) : insL L R i L.length = L ++ i :: R := by
 unfold insL
 simp
theorem insL_at {L R : List Int} {i : Int} {j : Nat} (hj : j ≤ L.length) : (insL L R i j).getD j 0 = i := by
 unfold insL
 rw [List.append_assoc, List.append_assoc, gD, List.getElem?_append_right (by rw [List.length_take]; omega)]
 simp [Nat.min_eq_left hj]
theorem insL_below {L R : List Int} {i : Int} {j : Nat} (hj : j < L.length) : (insL L R i (j + 1)).getD j 0 = L.getD j 0 := by
 unfold insL
 rw [List.append_assoc, List.append_assoc, gD, List.getElem?_append_left (by simp; omega), List.getElem?_take, if_pos (by omega), ← gD]
theorem insL_swap {L R : List Int} {i : Int} {j : Nat} (hj : j < L.length) : ((insL L R i (j + 1)).set (j + 1) (L.getD j 0)).set j i = insL L R i j := by
 have e1 : L.take (j + 1) = L.take j ++ [L.getD j 0] := by
  rw [List.take_succ_eq_append_getElem hj, getD_elem 0 hj]
 have e2 : L.drop j = L.getD j 0 :: L.drop (j + 1) := by
  rw [List.drop_eq_getElem_cons hj, getD_elem 0 hj]
 unfold insL
 rw [e1, e2]
 generalize L.getD j 0 = x
 have hl : (L.take j).length = j := by rw [List.length_take]; omega
 simp only [List.append_assoc, List.cons_append, List.nil_append]
 rw [List.set_append_right _ _ (by omega), hl, show j + 1 - j = 1 by omega, List.set_append_right _ _ (by omega), hl, Nat.sub_self]
 rfl
end
end Go.Proofs.YtfoplfpbjajljaaDoor
