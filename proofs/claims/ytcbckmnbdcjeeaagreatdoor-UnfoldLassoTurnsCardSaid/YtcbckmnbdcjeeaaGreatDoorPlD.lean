
/-
  Plainly: every node of a shape but the first has a parent.
-/
import Derived.Test.YtcbckmnbdcjeeaaGreatDoorFoG
set_option linter.unusedVariables false
set_option linter.unusedSimpArgs false
namespace Go.Proofs.YtcbckmnbdcjeeaaGreatDoor
theorem shp.leaf {l : List Int} (h : shp l) {i : Nat} (hi : i < l.length) (h0 : l.getD i 0 = 0) : endAt l i = i + 1 := by
  obtain ⟨e, h3, h4⟩ := h.at hi
  rw [drop_cons hi, skipN_cons 0, if_pos h0, skipN_zero, Option.some.injEq] at e
  have := congrArg List.length e
  simp only [List.length_drop] at this
  omega
theorem shp.root {l : List Int} (h : shp l) (hl : 0 < l.length) : endAt l 0 = l.length := by
  obtain ⟨e, h3, h4⟩ := h.at hl
  rw [List.drop_zero, show skipN 1 l = some [] from h, Option.some.injEq] at e
  have := congrArg List.length e
  simp only [List.length_drop, List.length_nil] at this
  omega
theorem shp.parAll {l : List Int} (h : shp l) : ∀ i, i < l.length → (0 < i → 0 ≤ parentT l i ∧ parentT l i < i) ∧ (endAt l i < l.length → 0 ≤ parentT l (endAt l i) ∧ parentT l (endAt l i) < i) := by
  intro i
  induction i using Nat.strongRecOn with
  | _ i ih =>
    intro hi
    have one : 0 < i → 0 ≤ parentT l i ∧ parentT l i < i := by
      intro h0
      obtain ⟨j, rfl⟩ : ∃ j, i = j + 1 := ⟨i - 1, by omega⟩
      rcases h.zeroTwo (i := j) (by omega) with h2 | h2
      · have e := h.leaf (by omega) h2
        have := (ih j (by omega) (by omega)).2 (by omega)
        rw [e] at this
        omega
      · have := parentT_first h (i := j) (by omega) h2
        omega
    refine ⟨one, fun he => ?_⟩
    by_cases h0 : i = 0
    · subst h0
      have := h.root (by omega)
      omega
    · obtain ⟨a, b⟩ := one (by omega)
      rcases parN_cases l i i with hc | ⟨k, hk, hc, hp⟩
      · unfold parentT at a; omega
      · simp only [isPar, Bool.and_eq_true, Bool.or_eq_true, decide_eq_true_eq] at hp
        obtain ⟨h2, hp⟩ := hp
        have ht := h.two (i := k) (by omega) h2
        rcases hp with hp | hp
        · have := parentT_second h (i := k) (by omega) h2
          rw [hp] at this
          omega
        · rw [hp] at ht
          have := (ih k hk (by omega)).2 (by omega)
          rw [← ht.2.2.2.1] at this
          omega
theorem parentT_zero (l : List Int) : parentT l 0 = -1 := rfl
theorem nbP_b {t : Int} {l : List Int} {n i : Nat} (hi : i < n) : -1 ≤ nbP t l n i ∧ nbP t l n i < n := by
  unfold nbP
  by_cases h : t = 4 ∧ lkB t l n = true
  · rw [if_pos h]
    unfold parentT
    rcases parN_cases l i i with hc | ⟨k, hk, hc, _⟩ <;> omega
  · rw [if_neg h]; omega
theorem lkB_of {t : Int} {l : List Int} {n : Nat} (h : t = 4) (hs : shp l) (hl : l.length = n) : lkB t l n = true := by
  unfold lkB; rw [decide_eq_true_iff]; exact fun _ => ⟨hs, hl⟩
end Go.Proofs.YtcbckmnbdcjeeaaGreatDoor
