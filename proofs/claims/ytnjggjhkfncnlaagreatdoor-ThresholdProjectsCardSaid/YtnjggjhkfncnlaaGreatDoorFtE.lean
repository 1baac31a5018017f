import Derived.Test.YtnjggjhkfncnlaaGreatDoorP1
import Derived.Test.YtnjggjhkfncnlaaGreatDoorPlR
import Derived.Test.YtnjggjhkfncnlaaGreatDoorFuA
set_option linter.unusedVariables false
set_option linter.unusedSimpArgs false
namespace Go.Proofs.YtnjggjhkfncnlaaGreatDoor
set_option maxRecDepth 100000
set_option maxHeartbeats 8000000
theorem mul_ab {a b A B : Int} (ha : -A ≤ a ∧ a ≤ A) (hb : -B ≤ b ∧ b ≤ B) : -(A * B) ≤ a * b ∧ a * b ≤ A * B:=by
 have hA : 0 ≤ A:=by omega
 have hB : 0 ≤ B:=by omega
 have h1 : (a * b).natAbs ≤ (A * B).natAbs:=by
  rw [Int.natAbs_mul, Int.natAbs_mul]
  exact Nat.mul_le_mul (by omega) (by omega)
 have h2 : 0 ≤ A * B:=Int.mul_nonneg hA hB
 omega
theorem rule_guard {p : Pro} {i : Nat} {r : Rul} (h : ruleE p i r = 0) {g : Thr} (hg : g ∈ r.guards) : (0 ≤ g.message ∧ g.message < p.messages.length) ∧ (1 ≤ g.coef ∧ g.coef ≤ 100) ∧ bndB g.bound:=by
 obtain ⟨_, _, h3, _, _, h6⟩:=rule_parts h
 by_cases k : r.kind = 1
 ·unfold kindE at h6
  rw [if_pos k] at h6
  have hz:=orl_zero h6 (guardsE p.messages.length r.guards) (by simp)
  unfold guardsE at hz
  split at hz
  ·omega
  ·rename_i h0
   have hg0:=orl_zero (show orL (r.guards.map (gE p.messages.length)) = 0 by omega) _ (List.mem_map.2 ⟨g, hg, rfl⟩)
   have hg1:=orl_zero hg0
   have a:=hg1 (indE g.message p.messages.length) (by simp)
   have b:=hg1 (coefE g.coef) (by simp)
   have c:=hg1 (bndE g.bound) (by simp)
   unfold indE at a
   unfold coefE at b
   unfold bndE at c
   refine ⟨?_, ?_, ?_⟩
   ·split at a <;> omega
   ·split at b <;> omega
   ·split at c
    ·assumption
    ·omega
 ·have : r.guards.length = 0:=by unfold surB at h3; omega
  rw [List.length_eq_zero_iff] at this
  rw [this] at hg
  cases hg
theorem addT_mem {acc : List Thr} {g x : Thr} (h : x ∈ addT acc g) : x ∈ acc ∨ x = g:=by
 unfold addT at h
 split at h
 ·exact .inl h
 ·rcases List.mem_append.1 h with h | h
  ·exact .inl h
  ·exact .inr (List.mem_singleton.1 h)
theorem foldT_mem {gs : List Thr} {x : Thr} : ∀ {acc : List Thr}, x ∈ gs.foldl addT acc → x ∈ acc ∨ x ∈ gs:=by
 induction gs with
 |nil=>intro acc h; exact .inl h
 |cons g gs ih =>
  intro acc h
  rw [List.foldl_cons] at h
  rcases ih h with h | h
  ·rcases addT_mem h with h | h
   ·exact .inl h
   ·exact .inr (h ▸ List.mem_cons_self)
  ·exact .inr (List.mem_cons_of_mem _ h)
theorem thrL_mem {rs : List Rul} {g : Thr} (h : g ∈ thrL rs) : ∃ i, i < rs.length ∧ g ∈ (rs.getD i rul0).guards:=by
 unfold thrL at h
 rcases foldT_mem h with h | h
 ·cases h
 ·obtain ⟨r, hr, hg⟩:=List.mem_flatMap.1 h
  obtain ⟨i, hi, rfl⟩:=List.getElem_of_mem hr
  exact ⟨i, hi, by rw [getD_elem rul0 hi]; exact hg⟩
theorem thr_ok {p : Pro} (h : validE p = 0) {g : Thr} (hg : g ∈ thrL p.rules) : (0 ≤ g.message ∧ g.message < p.messages.length) ∧ (1 ≤ g.coef ∧ g.coef ≤ 100) ∧ bndB g.bound:=by
 obtain ⟨i, hi, hm⟩:=thrL_mem hg
 exact rule_guard ((vld_of h).rul i hi) hm
theorem parL_b {p : Pro} (h : validE p = 0) : ∀ l ∈ parL p, bndB l:=by
 intro l hl
 have hr:=(vld_of h).res
 have f : ∀ a b c d : Int, -100 ≤ a ∧ a ≤ 100 → -100 ≤ b ∧ b ≤ 100 → -100 ≤ c ∧ c ≤ 100 → -100 ≤ d ∧ d ≤ 100 → bndB ⟨a, b, c, d⟩:=fun a b c d h1 h2 h3 h4=>⟨h1, h2, h3, h4⟩
 unfold parL at hl
 rcases List.mem_append.1 hl with hl | hl
 ·rcases List.mem_append.1 hl with hl | hl
  ·simp only [List.mem_cons, List.not_mem_nil, or_false] at hl
   rcases hl with rfl | rfl | rfl <;> exact f _ _ _ _ (by omega) (by omega) (by omega) (by omega)
  ·split at hl
   ·simp only [List.mem_cons, List.not_mem_nil, or_false] at hl
    rcases hl with rfl | rfl <;> exact f _ _ _ _ (by omega) (by omega) (by omega) (by omega)
   ·simp at hl
 ·obtain ⟨i, hi, e⟩:=List.getElem_of_mem hl
  have:=hr i hi
  rwa [getD_elem lin0 hi, e] at this
theorem flat_le {α β : Type} (f : α → List β) (B : Nat) : ∀ l : List α, (∀ a ∈ l, (f a).length ≤ B) → (l.flatMap f).length ≤ B * l.length
 |[], _=>by simp
 |a :: l, h=>by
  have ih:=flat_le f B l fun x hx=>h x (List.mem_cons_of_mem _ hx)
  have:=h a List.mem_cons_self
  rw [List.flatMap_cons, List.length_append, List.length_cons, Nat.mul_add]
  omega
end Go.Proofs.YtnjggjhkfncnlaaGreatDoor
