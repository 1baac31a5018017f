
/-
  The states in which processes start.
-/
import Derived.Test.YtcbckmnbdcjeeaaGreatDoorFoNa
set_option linter.unusedVariables false
set_option linter.unusedSimpArgs false
namespace Go.Proofs.YtcbckmnbdcjeeaaGreatDoor
set_option maxRecDepth 100000
set_option maxHeartbeats 16000000

theorem validE_init {p : Pro} (h : validE p = 0) : 0 < p.initial.length ∧ setE p.initial p.states.length = 0 ∧ setE p.leader p.states.length = 0 := by
  unfold validE at h
  have ht : tailE p = 0 := by
    (repeat' split at h) <;> first | exact h | omega
  have hz := orL_zero ht
  have h1 := hz (if p.initial.length = 0 then 1 else 0) (by simp)
  refine ⟨?_, hz _ (by simp), hz _ (by simp)⟩
  split at h1 <;> omega
theorem propE_valid {p : Pro} {q : Prp} (h : propE p q = 0) : validE p = 0 := by
  unfold propE at h
  by_cases h1 : validE p ≠ 0
  · rw [if_pos h1] at h; omega
  · omega
theorem propE_start {p : Pro} {q : Prp} (h : propE p q = 0) : setE q.start p.states.length = 0 ∧ ∀ j, j < q.start.length → q.start.getD j 0 ∈ p.initial := by
  unfold propE at h
  by_cases h1 : validE p ≠ 0
  · rw [if_pos h1] at h; omega
  rw [if_neg h1] at h
  by_cases h2 : ¬ validN q.name
  · rw [if_pos h2] at h; omega
  rw [if_neg h2] at h
  split at h
  · omega
  split at h
  · omega
  by_cases h4 : setE q.start p.states.length ≠ 0
  · rw [if_pos h4] at h; omega
  rw [if_neg h4] at h
  by_cases h5 : ¬ (∀ j, j < q.start.length → q.start.getD j 0 ∈ p.initial)
  · rw [if_pos h5] at h; omega
  · exact ⟨by omega, Classical.not_not.1 h5⟩
def stL (p : Pro) (q : Prp) : List Int := if 0 < q.start.length then q.start else p.initial
def chF (p : Pro) (q : Prp) (s : Siz) (i : Nat) : List Int := if i = 0 ∧ 0 < p.leader.length then p.leader else if (i : Int) < s.n - s.f then stL p q else p.initial
theorem cloneIntsF (l : List Int) (h0 : 0 < l.length) (hl : l.length ≤ 1000) : PSpec Tryz.prog 122 [.sl 0 encI l] (fun u => u = .sl 0 encI l) := by
  refine PSpec.intro tt_ok mx_ok Tryz.func122 rfl (by decide) ?_; (conv => whnf)
  refine needI (fun e => by rw [e] at h0; simp at h0) ?_
  conv => whnf
  refine bldI 0 encI [] rfl ?_
  conv => whnf
  refine appI _ rfl (by simp only [List.length_nil]; omega) ?_
  conv => whnf
  exact ⟨rfl, rfl⟩
theorem startsF (p : Pro) (q : Prp) (hp : ¬ bigP p) (hq : ¬ bigQ q) (hv : propE p q = 0) : PSpec Tryz.prog 81 [.agg (encP p), .agg (encQ q)] (fun u => u = .tup [.sl 0 encI (stL p q), .int .i64 0]) := by
  have hle := bigP_le hp
  have hlq := bigQ_le hq
  have hi := validE_init (propE_valid hv)
  have he := stL.eq_1 p q
  refine PSpec.intro tt_ok mx_ok Tryz.func81 rfl (by decide) ?_; (conv => whnf)
  refine boxP rfl ?_
  conv => whnf
  refine boxP rfl ?_
  conv => whnf
  (refine Spec.of_pure (n := 5) (propertyF p q hp hq) rfl ?_; rintro _ rfl; conv => whnf)
  refine cmpF (by omega) ?_
  conv => whnf
  refine cmpI (fun h1 => ?_) (fun h1 => ?_) <;> conv => whnf
  · rw [if_pos (by omega)] at he
    (refine Spec.of_pure (n := 5) (cloneIntsF q.start (by omega) (by omega)) rfl ?_; rintro _ rfl; conv => whnf)
    exact ⟨he ▸ rfl, rfl⟩
  · rw [if_neg (by omega)] at he
    (refine Spec.of_pure (n := 5) (cloneIntsF p.initial (by omega) (by omega)) rfl ?_; rintro _ rfl; conv => whnf)
    exact ⟨he ▸ rfl, rfl⟩
theorem startStatesR (p : Pro) (q : Prp) (hp : ¬ bigP p) (hq : ¬ bigQ q) : PSpec Tryz.prog 133 [.agg (encP p), .agg (encQ q)] (fun u => u = .sl 0 encI (stL p q)) := by
  have hle := bigP_le hp
  have hlq := bigQ_le hq
  have he := stL.eq_1 p q
  refine PSpec.intro tt_ok mx_ok Tryz.func133 rfl (by decide) ?_; (conv => whnf)
  refine boxP rfl ?_
  conv => whnf
  refine boxP rfl ?_
  conv => whnf
  refine cmpI (fun h1 => ?_) (fun h1 => ?_) <;> conv => whnf
  · rw [if_pos (by omega)] at he
    (refine Spec.of_pure (n := 5) (copyIntsR q.start (by omega)) rfl ?_; rintro _ rfl; conv => whnf)
    exact ⟨he ▸ rfl, rfl⟩
  · rw [if_neg (by omega)] at he
    (refine Spec.of_pure (n := 5) (copyIntsR p.initial (by omega)) rfl ?_; rintro _ rfl; conv => whnf)
    exact ⟨he ▸ rfl, rfl⟩
theorem choicesR (p : Pro) (q : Prp) (s : Siz) (i : Nat) (hp : ¬ bigP p) (hq : ¬ bigQ q) (hs : (1 ≤ s.n ∧ s.n ≤ 8) ∧ (0 ≤ s.f ∧ s.f ≤ s.n)) : PSpec Tryz.prog 92 [.agg (encP p), .agg (encQ q), .agg (encZ s), .int .i64 (i : Int)] (fun u => u = .sl 0 encI (chF p q s i)) := by
  have he := chF.eq_1 p q s i
  refine PSpec.intro tt_ok mx_ok Tryz.func92 rfl (by decide) ?_; (conv => whnf)
  refine boxP rfl ?_
  conv => whnf
  refine boxP rfl ?_
  conv => whnf
  refine boxP rfl ?_
  conv => whnf
  by_cases h1 : i = 0 ∧ 0 < p.leader.length
  · rw [if_pos h1] at he
    repeat' (first
        | (refine needI (by first | omega | (dsimp only; omega)) ?_; conv => whnf)
        | (refine arI trivial (by omega) ?_; conv => whnf)
        | (refine cmpT (by omega) ?_; conv => whnf)
        | (refine cmpF (by omega) ?_; conv => whnf)
        | fail)
    exact ⟨he ▸ rfl, rfl⟩
  rw [if_neg h1] at he
  by_cases h2 : (i : Int) < s.n - s.f
  · rw [if_pos h2] at he
    by_cases h3 : i = 0
    all_goals
      repeat' (first
          | (refine needI (by first | omega | (dsimp only; omega)) ?_; conv => whnf)
          | (refine arI trivial (by omega) ?_; conv => whnf)
          | (refine cmpT (by omega) ?_; conv => whnf)
          | (refine cmpF (by omega) ?_; conv => whnf)
          | fail)
      (refine Spec.of_pure (n := 5) (startStatesR p q hp hq) rfl ?_; rintro _ rfl; conv => whnf)
      exact ⟨he ▸ rfl, rfl⟩
  · rw [if_neg h2] at he
    by_cases h3 : i = 0
    all_goals
      repeat' (first
          | (refine needI (by first | omega | (dsimp only; omega)) ?_; conv => whnf)
          | (refine arI trivial (by omega) ?_; conv => whnf)
          | (refine cmpT (by omega) ?_; conv => whnf)
          | (refine cmpF (by omega) ?_; conv => whnf)
          | fail)
      exact ⟨he ▸ rfl, rfl⟩
noncomputable def sizQ (p : Pro) (q : Prp) (s : Siz) : Int := if propE p q ≠ 0 then propE p q else sizeE p s
theorem checkAllF (p : Pro) (q : Prp) (s : Siz) (hp : ¬ bigP p) (hq : ¬ bigQ q) : PSpec Tryz.prog 41 [.agg (encP p), .agg (encQ q), .agg (encZ s)] (fun u => u = .int .i64 (sizQ p q s)) := by
  have he := sizQ.eq_1 p q s
  refine PSpec.intro tt_ok mx_ok Tryz.func41 rfl (by decide) ?_; (conv => whnf)
  refine boxP rfl ?_
  conv => whnf
  refine boxP rfl ?_
  conv => whnf
  refine boxP rfl ?_
  conv => whnf
  (refine Spec.of_pure (n := 5) (propertyF p q hp hq) rfl ?_; rintro _ rfl; conv => whnf)
  refine cmpI (fun h1 => ?_) (fun h1 => ?_) <;> conv => whnf
  · rw [if_pos h1] at he; exact ⟨he ▸ rfl, rfl⟩
  · rw [if_neg h1] at he
    (refine Spec.of_pure (n := 5) (checkSizeF p s hp) rfl ?_; rintro _ rfl; conv => whnf)
    exact ⟨he ▸ rfl, rfl⟩
theorem sizedPropertyR (p : Pro) (q : Prp) (s : Siz) (hp : ¬ bigP p) (hq : ¬ bigQ q) : PSpec Tryz.prog 45 [.agg (encP p), .agg (encQ q), .agg (encZ s)] (fun u => u = .int .i64 (sizQ p q s)) := by
  have he := sizQ.eq_1 p q s
  refine PSpec.intro tt_ok mx_ok Tryz.func45 rfl (by decide) ?_; (conv => whnf)
  refine boxP rfl ?_
  conv => whnf
  refine boxP rfl ?_
  conv => whnf
  refine boxP rfl ?_
  conv => whnf
  (refine Spec.of_pure (n := 5) (propertyR p q hp hq) rfl ?_; rintro _ rfl; conv => whnf)
  refine cmpI (fun h1 => ?_) (fun h1 => ?_) <;> conv => whnf
  · rw [if_pos h1] at he; exact ⟨he ▸ rfl, rfl⟩
  · rw [if_neg h1] at he
    (refine Spec.of_pure (n := 5) (sizedR p s hp) rfl ?_; rintro _ rfl; conv => whnf)
    exact ⟨he ▸ rfl, rfl⟩
end Go.Proofs.YtcbckmnbdcjeeaaGreatDoor
