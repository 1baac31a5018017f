
/-
  What a valid rule has.
-/
import Derived.Test.YtcbckmnbdcjeeaaGreatDoorFoF
set_option linter.unusedVariables false
set_option linter.unusedSimpArgs false
namespace Go.Proofs.YtcbckmnbdcjeeaaGreatDoor
set_option maxRecDepth 100000

theorem indE_ok {i n : Int} (h : indE i n = 0) : 0 ≤ i ∧ i < n := by
  unfold indE at h; split at h <;> omega
theorem valE_ok {m v : Int} (h : valE m v = 0) : -1 ≤ v ∧ v < m := by
  unfold valE at h; split at h <;> omega
theorem gE_ok {m : Int} {g : Thr} (h : gE m g = 0) : (0 ≤ g.message ∧ g.message < m) ∧ (1 ≤ g.coef ∧ g.coef ≤ 100) ∧ bndB g.bound := by
  have hz := orL_zero h
  have h1 := hz (indE g.message m) (by simp)
  have h2 := hz (coefE g.coef) (by simp)
  have h3 := hz (bndE g.bound) (by simp)
  refine ⟨indE_ok h1, ?_, ?_⟩
  · unfold coefE at h2; split at h2 <;> omega
  · unfold bndE at h3; split at h3
    · assumption
    · omega
theorem guardsE_ok {m : Int} {l : List Thr} (h : guardsE m l = 0) : ∀ j, j < l.length → (0 ≤ (l.getD j thr0).message ∧ (l.getD j thr0).message < m) ∧ (1 ≤ (l.getD j thr0).coef ∧ (l.getD j thr0).coef ≤ 100) ∧ bndB (l.getD j thr0).bound := by
  intro j hj
  unfold guardsE at h
  by_cases h1 : orL (l.map (gE m)) = 0
  · exact gE_ok (orL_zero h1 _ (List.mem_map.2 ⟨_, by rw [List.getD_eq_getElem?_getD, List.getElem?_eq_getElem hj]; exact List.getElem_mem _, rfl⟩))
  · rw [if_pos h1] at h; omega
/-- what is asked of a rule of a family -/
structure RulOk (p : Pro) (r : Rul) : Prop where
  fit : fitB r.kind p.topology
  sur : ¬ surB r p.topology
  src : 0 ≤ r.src ∧ r.src < p.states.length
  dst : 0 ≤ r.dst ∧ r.dst < p.states.length
  kin : kindE p r = 0
theorem ruleE_ok {p : Pro} {i : Nat} {r : Rul} (h : ruleE p i r = 0) : RulOk p r := by
  unfold ruleE at h
  by_cases h1 : ¬ validN r.name ∨ takenB p.rules i r
  · rw [if_pos h1] at h; omega
  rw [if_neg h1] at h
  by_cases h2 : ¬ fitB r.kind p.topology ∨ surB r p.topology
  · rw [if_pos h2] at h; omega
  rw [if_neg h2] at h
  have hz := orL_zero h
  refine ⟨?_, fun hs => h2 (.inr hs), indE_ok (hz _ (by simp)), indE_ok (hz _ (by simp)), hz _ (by simp)⟩
  by_cases hf : fitB r.kind p.topology
  · exact hf
  · exact absurd (.inl hf) h2
theorem valid_rule {p : Pro} (h : validE p = 0) {i : Nat} (hi : i < p.rules.length) : RulOk p (p.rules.getD i rul0) := by
  unfold validE at h
  have ht : tailE p = 0 := by
    (repeat' split at h) <;> first | exact h | omega
  have hz := orL_zero ht (rulesE p) (by simp)
  refine ruleE_ok (i := i) (orL_zero hz _ (List.mem_map.2 ⟨i, List.mem_range.2 hi, rfl⟩))
end Go.Proofs.YtcbckmnbdcjeeaaGreatDoor
