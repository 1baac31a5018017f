import Derived.Test.YtfoplfpbjajljaaDoorM5
set_option linter.unusedVariables false
set_option linter.unusedSimpArgs false
namespace Go.Proofs.YtfoplfpbjajljaaDoor
set_option maxRecDepth 100000
set_option maxHeartbeats 8000000
theorem set_iff {l : List Int} {n : Int} (h : setE l n = 0) : inR l n ∧ incr l := by
 unfold setE at h
 by_cases h1 : inR l n
 ·rw [if_pos h1] at h
  by_cases h2 : incr l
  ·exact ⟨h1, h2⟩
  ·rw [if_neg h2] at h; omega
 ·rw [if_neg h1] at h; omega
theorem set_low {l : List Int} {n : Int} (h : setE l n = 0) : ∀ k, k < l.length → (k : Int) ≤ l.getD k 0 := by
 obtain ⟨h1, h2⟩ := set_iff h
 intro k
 induction k with
 |zero => intro hk; exact (h1 0 hk).1
 |succ k ih =>
  intro hk
  have a := ih (by omega)
  have b := h2 (k + 1) hk (by omega)
  rw [Nat.add_sub_cancel] at b
  omega
theorem set_len {l : List Int} {n : Nat} (h : setE l n = 0) : l.length ≤ n := by
 by_cases h0 : l.length = 0
 ·omega
 have a := set_low h (l.length - 1) (by omega)
 have b := (set_iff h).1 (l.length - 1) (by omega)
 omega
structure Vld (p : Pro) : Prop where
 name : validN p.name
 top : 1 ≤ p.topology ∧ p.topology ≤ 4 ∧ 0 ≤ p.fault ∧ p.fault ≤ 3
 len : 0 < p.states.length ∧ p.states.length ≤ 6 ∧ p.messages.length ≤ 3 ∧ p.values.length ≤ 3 ∧ p.resilience.length ≤ 4 ∧ p.rules.length ≤ 8
 nms : nmsB (allN p)
 shp : ¬ ((p.topology ≠ 1 ∧ (0 < p.messages.length ∨ 0 < p.values.length ∨ 0 < p.resilience.length ∨ p.fault ≠ 0)) ∨ (p.topology = 1 ∧ 0 < p.leader.length))
 res : resB p
 ini : setE p.initial p.states.length = 0 ∧ 0 < p.initial.length ∧ setE p.leader p.states.length = 0
 rul : ∀ i, i < p.rules.length → ruleE p i (p.rules.getD i rul0) = 0
 thr : (thrL p.rules).length ≤ 3
theorem vld_of {p : Pro} (h : validE p = 0) : Vld p := by
 unfold validE at h
 by_cases h1 : ¬ validN p.name
 ·rw [if_pos h1] at h; omega
 rw [if_neg h1] at h
 by_cases h2 : p.topology < 1 ∨ 4 < p.topology ∨ p.fault < 0 ∨ 3 < p.fault
 ·rw [if_pos h2] at h; omega
 rw [if_neg h2] at h
 by_cases h3 : p.states.length = 0
 ·rw [if_pos h3] at h; omega
 rw [if_neg h3] at h
 by_cases h4 : 6 < p.states.length ∨ 3 < p.messages.length ∨ 3 < p.values.length ∨ 4 < p.resilience.length ∨ 8 < p.rules.length
 ·rw [if_pos h4] at h; omega
 rw [if_neg h4] at h
 by_cases h5 : ¬ nmsB (allN p)
 ·rw [if_pos h5] at h; omega
 rw [if_neg h5] at h
 by_cases h6 : (p.topology ≠ 1 ∧ (0 < p.messages.length ∨ 0 < p.values.length ∨ 0 < p.resilience.length ∨ p.fault ≠ 0)) ∨ (p.topology = 1 ∧ 0 < p.leader.length)
 ·rw [if_pos h6] at h; omega
 rw [if_neg h6] at h
 by_cases h7 : ¬ resB p
 ·rw [if_pos h7] at h; omega
 rw [if_neg h7] at h
 have hz := orl_zero h
 have a1 := hz (if p.initial.length = 0 then 1 else 0) (by simp)
 have a2 := hz (rulesE p) (by simp)
 have a3 := hz (if 3 < (thrL p.rules).length then 4 else 0) (by simp)
 refine ⟨Classical.not_not.1 h1, by omega, by omega, Classical.not_not.1 h5, h6, Classical.not_not.1 h7, ⟨hz _ (by simp), ?_, hz _ (by simp)⟩, fun i hi => ?_, ?_⟩
 ·split at a1 <;> omega
 ·exact orl_zero a2 _ (List.mem_map.2 ⟨i, List.mem_range.2 hi, rfl⟩)
 ·split at a3 <;> omega
theorem resp_n {l : List Int} {n : Int} (h : respE l n = 0) : (l.length : Int) = n := by
 unfold respE at h
 split at h <;> omega
theorem rule_small {p : Pro} {i : Nat} {r : Rul} (hl : 0 < p.states.length ∧ p.states.length ≤ 6 ∧ p.messages.length ≤ 3) (h : ruleE p i r = 0) : ¬ bigR r := by
 obtain ⟨h1, h2, h3, _, _, h6⟩ := rule_parts h
 have hn := h1.1.2
 unfold surB at h3
 unfold fitB at h2
 unfold kindE at h6
 unfold bigR
 have hk : r.kind = 1 ∨ r.kind = 2 ∨ r.kind = 3 ∨ r.kind = 4 ∨ r.kind = 5 := by omega
 rcases hk with k | k | k | k | k
 ·rw [if_pos k] at h6
  have hz := orl_zero h6
  have c1 := guards_2 (hz (guardsE p.messages.length r.guards) (by simp))
  have c2 := set_len (hz (setE r.some_ p.states.length) (by simp))
  have c3 := set_len (hz (setE r.forall_ p.states.length) (by simp))
  have c4 := set_len (hz (setE r.send p.messages.length) (by simp))
  omega
 ·omega
 ·rw [if_neg (by omega), if_neg (by omega), if_pos k] at h6
  have c1 := resp_n (orl_zero h6 (respE r.response p.states.length) (by simp))
  omega
 ·rw [if_neg (by omega), if_neg (by omega), if_neg (by omega), if_pos k] at h6
  have hz := orl_zero h6
  have c1 := set_len (hz (setE r.left p.states.length) (by simp))
  have c2 := set_len (hz (setE r.right p.states.length) (by simp))
  have c3 := set_len (hz (setE r.parent p.states.length) (by simp))
  omega
 ·omega
theorem nms_small {p : Pro} (h : nmsB (allN p)) : ¬ bigNs p.states ∧ ¬ bigNs p.messages ∧ ¬ bigNs p.values := by
 have key : ∀ s ∈ allN p, s.size ≤ 12 := by
  intro s hs
  obtain ⟨j, hj, e⟩ := List.getElem_of_mem hs
  have := (h j hj).1.1.2
  rwa [gD, gL hj, Option.getD_some, e] at this
 have go : ∀ l : List ByteArray, (∀ s ∈ l, s ∈ allN p) → ¬ bigNs l := by
  rintro l hl ⟨j, hj, hlt⟩
  have := key _ (hl _ (mem_getD (l := l) t0 hj))
  omega
 refine ⟨go _ fun s hs => ?_, go _ fun s hs => ?_, go _ fun s hs => ?_⟩ <;> simp [allN, hs]
theorem not_big {p : Pro} (h : validE p = 0) : ¬ bigP p := by
 have v := vld_of h
 have h1 := v.name.1.2
 have h2 := set_len v.ini.1
 have h3 := set_len v.ini.2.2
 have h4 := v.len
 obtain ⟨n1, n2, n3⟩ := nms_small v.nms
 have h5 : ¬ ∃ j, j < p.rules.length ∧ bigR (p.rules.getD j rul0) := fun ⟨j, hj, hb⟩ => rule_small ⟨h4.1, h4.2.1, h4.2.2.1⟩ (v.rul j hj) hb
 unfold bigP
 rintro (h | h | h | h | h | h | h | h | h | h | h | h)
 any_goals omega
 all_goals first | exact h5 h | exact n1 h | exact n2 h | exact n3 h
structure Vlq (p : Pro) (q : Prp) : Prop where
 vld : validE p = 0
 name : validN q.name
 kind : q.kind = 1 ∨ q.kind = 2
 shp : ¬ ((q.kind = 1 ∧ 0 < q.goal.length) ∨ (q.kind = 2 ∧ (0 < q.bad.length ∨ 0 < q.adjacent.length)))
 start : setE q.start p.states.length = 0
 ini : ∀ j, j < q.start.length → q.start.getD j 0 ∈ p.initial
 goal : q.kind = 2 → setE q.goal p.states.length = 0 ∧ 0 < q.goal.length
 bad : q.kind = 1 → q.bad.length ≤ 3 ∧ cntsE p.states.length q.bad = 0 ∧ adjE p q.adjacent = 0 ∧ ¬ (q.bad.length = 0 ∧ q.adjacent.length = 0)
theorem vlq_of {p : Pro} {q : Prp} (h : propE p q = 0) : Vlq p q := by
 unfold propE at h
 by_cases h1 : validE p ≠ 0
 ·rw [if_pos h1] at h; omega
 rw [if_neg h1] at h
 by_cases h2 : ¬ validN q.name
 ·rw [if_pos h2] at h; omega
 rw [if_neg h2] at h
 by_cases h3 : q.kind ≠ 1 ∧ q.kind ≠ 2
 ·rw [if_pos h3] at h; omega
 rw [if_neg h3] at h
 by_cases h4 : (q.kind = 1 ∧ 0 < q.goal.length) ∨ (q.kind = 2 ∧ (0 < q.bad.length ∨ 0 < q.adjacent.length))
 ·rw [if_pos h4] at h; omega
 rw [if_neg h4] at h
 by_cases h5 : setE q.start p.states.length ≠ 0
 ·rw [if_pos h5] at h; omega
 rw [if_neg h5] at h
 by_cases h6 : ¬ (∀ j, j < q.start.length → q.start.getD j 0 ∈ p.initial)
 ·rw [if_pos h6] at h; omega
 rw [if_neg h6] at h
 refine ⟨by omega, Classical.not_not.1 h2, by omega, h4, by omega, Classical.not_not.1 h6, fun k => ?_, fun k => ?_⟩
 ·rw [if_pos k] at h
  have hz := orl_zero h
  have a := hz (if q.goal.length = 0 then 1 else 0) (by simp)
  refine ⟨hz _ (by simp), ?_⟩
  split at a <;> omega
 ·rw [if_neg (by omega)] at h
  have hz := orl_zero h
  have a := hz (if q.bad.length = 0 ∧ q.adjacent.length = 0 then 1 else 0) (by simp)
  have b := hz (if 3 < q.bad.length then 4 else 0) (by simp)
  refine ⟨?_, hz _ (by simp), hz _ (by simp), ?_⟩
  ·split at b <;> omega
  ·split at a
   ·omega
   ·assumption
theorem cnt_parts {p : Pro} {q : Prp} (h : Vlq p q) (k : q.kind = 1) {j : Nat} (hj : j < q.bad.length) : setE (q.bad.getD j cnt0).states p.states.length = 0 ∧ 0 < (q.bad.getD j cnt0).states.length ∧ 1 ≤ (q.bad.getD j cnt0).least ∧ (q.bad.getD j cnt0).least ≤ 3 := by
 have hz := orl_zero (h.bad k).2.1
 have hc := orl_zero (hz (cntE p.states.length (q.bad.getD j cnt0)) (List.mem_map.2 ⟨_, mem_getD _ hj, rfl⟩))
 have a := hc (if (q.bad.getD j cnt0).states.length = 0 ∨ (q.bad.getD j cnt0).least < 1 ∨ 3 < (q.bad.getD j cnt0).least then 1 else 0) (by simp)
 refine ⟨hc _ (by simp), ?_⟩
 split at a <;> omega
theorem not_bigq {p : Pro} {q : Prp} (h : propE p q = 0) : ¬ bigQ q := by
 have v := vlq_of h
 have h1 := v.name.1.2
 have hs := (vld_of v.vld).len
 have h2 := set_len v.start
 have h3 : q.goal.length ≤ 6 := by
  rcases v.kind with k | k
  ·have := v.shp; omega
  ·have := set_len (v.goal k).1; omega
 have h4 : q.bad.length ≤ 3 ∧ q.adjacent.length ≤ 2 := by
  rcases v.kind with k | k
  ·refine ⟨(v.bad k).1, ?_⟩
   have ha := (v.bad k).2.2.1
   unfold adjE at ha
   split at ha
   ·omega
   ·split at ha
    ·omega
    ·split at ha <;> omega
  ·have := v.shp; omega
 have h5 : ¬ ∃ j, j < q.bad.length ∧ 60 < (q.bad.getD j cnt0).states.length := by
  rintro ⟨j, hj, hb⟩
  rcases v.kind with k | k
  ·have := set_len (cnt_parts v k hj).1; omega
  ·have := v.shp; omega
 unfold bigQ
 rintro (h | h | h | h | h | h)
 any_goals omega
 exact h5 h
end Go.Proofs.YtfoplfpbjajljaaDoor
