
/-
  Canonical forms, plainly: sorting the processes of a clique turns neither counts nor what the properties look at.
-/
import Derived.Test.YtcbckmnbdcjeeaaGreatDoorFpMa
import Derived.Test.YtcbckmnbdcjeeaaGreatDoorFoE
set_option linter.unusedVariables false
set_option linter.unusedSimpArgs false
namespace Go.Proofs.YtcbckmnbdcjeeaaGreatDoor
set_option maxRecDepth 100000

theorem srtAt_two {l : List Int} {k : Nat} (h : k ≤ l.length) : srtI (l.take k) ++ srtI (l.drop k) = srtAt (srtAt l 0 k) k (l.length - k) := by
  have hn : (srtI (l.take k)).length = k := by rw [srtI_len, List.length_take]; omega
  have e1 : srtAt l 0 k = srtI (l.take k) ++ l.drop k := by simp [srtAt]
  have hd : (srtI (l.take k) ++ l.drop k).drop k = l.drop k := by
    rw [List.drop_append, hn, Nat.sub_self, List.drop_of_length_le (by omega)]; rfl
  have ht : (srtI (l.take k) ++ l.drop k).take k = srtI (l.take k) := by
    rw [List.take_append_of_le_length (by omega)]; exact List.take_of_length_le (by omega)
  have hx : (l.drop k).take (l.length - k) = l.drop k := List.take_of_length_le (by rw [List.length_drop]; omega)
  have hy : (srtI (l.take k) ++ l.drop k).drop (k + (l.length - k)) = [] := List.drop_of_length_le (by rw [List.length_append, hn, List.length_drop]; omega)
  rw [e1, srtAt, ht, hd, hx, hy, List.append_nil]
def canC (p : Pro) (c : Cfg) : Cfg := if p.topology = 1 then ⟨c.shape, srtI (c.states.take c.correct.toNat) ++ srtI (c.states.drop c.correct.toNat), c.correct, c.sent, c.faulty, c.value⟩ else c
theorem canC_no {p : Pro} (c : Cfg) (h : p.topology ≠ 1) : canC p c = c := if_neg h
theorem canC_yes {p : Pro} (c : Cfg) (h : p.topology = 1) : canC p c = ⟨c.shape, srtI (c.states.take c.correct.toNat) ++ srtI (c.states.drop c.correct.toNat), c.correct, c.sent, c.faulty, c.value⟩ := if_pos h
theorem canC_correct (p : Pro) (c : Cfg) : (canC p c).correct = c.correct := by unfold canC; split <;> rfl
theorem canC_shape (p : Pro) (c : Cfg) : (canC p c).shape = c.shape := by unfold canC; split <;> rfl
theorem canC_sent (p : Pro) (c : Cfg) : (canC p c).sent = c.sent := by unfold canC; split <;> rfl
theorem canC_faulty (p : Pro) (c : Cfg) : (canC p c).faulty = c.faulty := by unfold canC; split <;> rfl
theorem canC_value (p : Pro) (c : Cfg) : (canC p c).value = c.value := by unfold canC; split <;> rfl
theorem canC_perm (p : Pro) (c : Cfg) : (canC p c).states.Perm c.states := by
  unfold canC
  split
  · have := (srtI_perm (c.states.take c.correct.toNat)).append (srtI_perm (c.states.drop c.correct.toNat))
    rwa [List.take_append_drop] at this
  · exact List.Perm.refl _
theorem canC_len (p : Pro) (c : Cfg) : (canC p c).states.length = c.states.length := (canC_perm p c).length_eq
theorem canC_wide (p : Pro) (c : Cfg) : wideB (canC p c) = wideB c := by
  unfold wideB; rw [canC_shape, canC_sent, canC_faulty, canC_len]
theorem canC_take {p : Pro} {c : Cfg} (h : p.topology = 1) (h1 : c.correct ≤ c.states.length) : (canC p c).states.take c.correct.toNat = srtI (c.states.take c.correct.toNat) := by
  rw [canC_yes c h]
  rw [List.take_append_of_le_length (by rw [srtI_len, List.length_take]; omega), List.take_of_length_le (by rw [srtI_len, List.length_take]; omega)]
theorem canC_drop {p : Pro} {c : Cfg} (h : p.topology = 1) (h1 : c.correct ≤ c.states.length) : (canC p c).states.drop c.correct.toNat = srtI (c.states.drop c.correct.toNat) := by
  rw [canC_yes c h]
  dsimp only
  rw [List.drop_append, List.drop_of_length_le (by rw [srtI_len, List.length_take]; omega), List.nil_append, srtI_len, List.length_take]
  rw [show c.correct.toNat - min c.correct.toNat c.states.length = 0 by omega]
  rfl
theorem canC_takeP (p : Pro) {c : Cfg} (h1 : c.correct ≤ c.states.length) : ((canC p c).states.take c.correct.toNat).Perm (c.states.take c.correct.toNat) := by
  by_cases h : p.topology = 1
  · rw [canC_take h h1]; exact srtI_perm _
  · rw [canC_no c h]
theorem canC_idem (p : Pro) {c : Cfg} (h1 : c.correct ≤ c.states.length) : canC p (canC p c) = canC p c := by
  by_cases h : p.topology = 1
  · have e1 := canC_take h h1
    have e2 := canC_drop h h1
    have e := canC_yes (canC p c) h
    rw [canC_correct, canC_shape, canC_sent, canC_faulty, canC_value, e1, e2, srtI_idem, srtI_idem] at e
    rw [e, canC_yes c h]
  · rw [canC_no _ h]
theorem inR_mem {l : List Int} {n : Int} : inR l n ↔ ∀ x ∈ l, 0 ≤ x ∧ x < n := by
  constructor
  · intro h x hx
    obtain ⟨i, hi, rfl⟩ := List.getElem_of_mem hx
    have := h i hi
    rw [List.getD_eq_getElem?_getD, List.getElem?_eq_getElem hi] at this
    exact this
  · intro h j hj
    rw [List.getD_eq_getElem?_getD, List.getElem?_eq_getElem hj]
    exact h _ (List.getElem_mem hj)
theorem canC_plB {p : Pro} {c : Cfg} (h : plB p c) : plB p (canC p c) := by
  obtain ⟨h1, h2, h3⟩ := h
  refine ⟨?_, by rw [canC_correct]; exact h2, by rw [canC_correct, canC_len]; exact h3⟩
  rw [inR_mem] at h1 ⊢
  exact fun x hx => h1 x ((canC_perm p c).mem_iff.1 hx)
theorem cntL_perm (n : Nat) {a b : List Int} (h : a.Perm b) : cntL n a = cntL n b := by
  unfold cntL
  apply List.map_congr_left
  intro s _
  rw [h.count_eq]
theorem canC_cnt (p : Pro) {c : Cfg} (n : Nat) (h1 : c.correct ≤ c.states.length) : cntL n ((canC p c).states.take (canC p c).correct.toNat) = cntL n (c.states.take c.correct.toNat) := by
  rw [canC_correct]; exact cntL_perm n (canC_takeP p h1)
theorem rchB_take {q : Prp} {c : Cfg} (h0 : 0 ≤ c.correct) (h1 : c.correct ≤ c.states.length) : rchB q c ↔ ∀ x ∈ c.states.take c.correct.toNat, x ∈ q.goal := by
  constructor
  · intro h x hx
    obtain ⟨i, hi, rfl⟩ := List.getElem_of_mem hx
    rw [List.length_take] at hi
    have := h i (by omega)
    rw [List.getD_eq_getElem?_getD, List.getElem?_eq_getElem (by omega)] at this
    rw [List.getElem_take]; exact this
  · intro h j hj
    have hj2 : j < (c.states.take c.correct.toNat).length := by rw [List.length_take]; omega
    have := h _ (List.getElem_mem hj2)
    rw [List.getElem_take] at this
    rw [List.getD_eq_getElem?_getD, List.getElem?_eq_getElem (by rw [List.length_take] at hj2; omega)]
    exact this
theorem canC_rch (p : Pro) (q : Prp) {c : Cfg} (h0 : 0 ≤ c.correct) (h1 : c.correct ≤ c.states.length) : rchB q (canC p c) ↔ rchB q c := by
  rw [rchB_take h0 h1, rchB_take (by rw [canC_correct]; exact h0) (by rw [canC_correct, canC_len]; exact h1), canC_correct]
  constructor
  · exact fun h x hx => h x ((canC_takeP p h1).mem_iff.2 hx)
  · exact fun h x hx => h x ((canC_takeP p h1).mem_iff.1 hx)
theorem canC_hit (p : Pro) (S : List Int) {c : Cfg} (h1 : c.correct ≤ c.states.length) : hitN S ((canC p c).states.take (canC p c).correct.toNat) = hitN S (c.states.take c.correct.toNat) := by
  rw [canC_correct]; exact (canC_takeP p h1).countP_eq _
theorem adjB_clique {p : Pro} (h : p.topology = 1) (c : Cfg) (l : List Int) : ¬ adjB p c l := by
  rintro ⟨i, _, _, ⟨h0, _⟩ | ⟨h4, _⟩⟩
  · unfold nbS at h0
    rw [if_neg (by omega), if_neg (by omega), if_neg (by omega)] at h0
    omega
  · omega
theorem canC_bad (p : Pro) (q : Prp) {c : Cfg} (h1 : c.correct ≤ c.states.length) : badB p q (canC p c) ↔ badB p q c := by
  by_cases h : p.topology = 1
  · unfold badB cokB
    have e : ∀ S, hitN S ((canC p c).states.take (canC p c).correct.toNat) = hitN S (c.states.take c.correct.toNat) := fun S => canC_hit p S h1
    simp only [e]
    constructor
    · rintro ⟨a, b | b⟩
      · exact ⟨a, .inl b⟩
      · exact absurd b (adjB_clique h _ _)
    · rintro ⟨a, b | b⟩
      · exact ⟨a, .inl b⟩
      · exact absurd b (adjB_clique h _ _)
  · rw [canC_no c h]
theorem canC_trB {p : Pro} {c : Cfg} : trB p (canC p c) ↔ trB p c := by
  unfold trB; rw [canC_shape, canC_len]
theorem plB_can_iff {p : Pro} {c : Cfg} : plB p (canC p c) ↔ plB p c := by
  refine ⟨fun h => ?_, canC_plB⟩
  obtain ⟨h1, h2, h3⟩ := h
  rw [canC_correct] at h2 h3
  rw [canC_len] at h3
  refine ⟨?_, h2, h3⟩
  rw [inR_mem] at h1 ⊢
  exact fun x hx => h1 x ((canC_perm p c).mem_iff.2 hx)
theorem bdE_can (p : Pro) (q : Prp) {c : Cfg} (h1 : c.correct ≤ c.states.length) : bdE p q (canC p c) = bdE p q c := by
  unfold bdE
  simp only [plB_can_iff, canC_trB]
  have e : decide (badB p q (canC p c)) = decide (badB p q c) := decide_eq_decide.2 (canC_bad p q h1)
  rw [e]
theorem rcE_can (p : Pro) (q : Prp) {c : Cfg} (h0 : 0 ≤ c.correct) (h1 : c.correct ≤ c.states.length) : rcE p q (canC p c) = rcE p q c := by
  unfold rcE
  simp only [plB_can_iff]
  have e : decide (rchB q (canC p c)) = decide (rchB q c) := decide_eq_decide.2 (canC_rch p q h0 h1)
  rw [e]
end Go.Proofs.YtcbckmnbdcjeeaaGreatDoor
