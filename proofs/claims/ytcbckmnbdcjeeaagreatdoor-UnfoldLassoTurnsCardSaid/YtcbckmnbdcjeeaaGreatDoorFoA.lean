
/-
  Which configurations have what the properties look at; which are reached.
-/
import Derived.Test.YtcbckmnbdcjeeaaGreatDoorFnZ
set_option linter.unusedVariables false
set_option linter.unusedSimpArgs false
namespace Go.Proofs.YtcbckmnbdcjeeaaGreatDoor
set_option maxRecDepth 100000
set_option maxHeartbeats 8000000

theorem wide_le {c : Cfg} (hw : wideB c = false) : c.shape.length ≤ 100 ∧ c.states.length ≤ 100 ∧ c.sent.length ≤ 100 ∧ c.faulty.length ≤ 100 := by
  unfold wideB at hw
  simp at hw
  omega
def plB (p : Pro) (c : Cfg) : Prop := inR c.states p.states.length ∧ 0 ≤ c.correct ∧ c.correct ≤ c.states.length
noncomputable instance decPl (p : Pro) (c : Cfg) : Decidable (plB p c) := Classical.propDecidable _
def trB (p : Pro) (c : Cfg) : Prop := p.topology = 4 → c.shape.length = c.states.length ∧ shp c.shape
noncomputable instance decTr (p : Pro) (c : Cfg) : Decidable (trB p c) := Classical.propDecidable _
theorem inR_scan {l : List Int} {n : Int} {k : Nat} (h : ∀ j, j < k → 0 ≤ l.getD j 0 ∧ l.getD j 0 < n) (hk : l.length ≤ k) : inR l n := fun j hj => h j (by omega)

theorem plainN (p : Pro) (c : Cfg) (hp : ¬ bigP p) (hw : wideB c = false) : PSpec Tryz.prog 28 [.agg (encP p), .agg (encC c), .bool false] (fun u => u = .int .i64 (if plB p c then 0 else 1)) := by
  have hle := bigP_le hp
  have hc := wide_le hw
  refine PSpec.intro tt_ok mx_ok Tryz.func28 rfl (by decide) ?_; (conv => whnf)
  refine boxP rfl ?_
  conv => whnf
  refine boxP rfl ?_
  conv => whnf
  refine WPc.loopF tt_ok mx_ok (fun k : Nat => k ≤ c.states.length ∧ ∀ j, j < k → 0 ≤ c.states.getD j 0 ∧ c.states.getD j 0 < p.states.length) (fun k => [(12, .int .i64 (k : Int))]) (fun _ => []) (fun k => c.states.length - k) 0 ⟨by omega, fun j hj => by omega⟩ ?_; conv => whnf
  refine ⟨(Sub.id_ 400 rfl auto_ auto_), ?_⟩
  rintro k ⟨hk, ha⟩
  conv => whnf
  refine cmpI (fun h1 => ?_) (fun h1 => ?_) <;> conv => whnf
  · refine needI (by omega) ?_
    rw [Int.toNat_natCast]
    conv => whnf
    by_cases h2 : 0 ≤ c.states.getD k 0 ∧ c.states.getD k 0 < p.states.length
    · repeat' (first
          | (refine needI (by first | omega | (dsimp only; omega)) ?_; conv => whnf)
          | (refine arI trivial (by omega) ?_; conv => whnf)
          | (refine cmpT (by omega) ?_; conv => whnf)
          | (refine cmpF (by omega) ?_; conv => whnf)
          | fail)
      refine ⟨k + 1, (Sub.id_ 400 rfl auto_ auto_), ⟨by omega, fun j hj => ?_⟩, by dsimp only; omega⟩
      by_cases e : j = k
      · subst e; exact h2
      · exact ha j (by omega)
    · repeat' (first
          | (refine needI (by first | omega | (dsimp only; omega)) ?_; conv => whnf)
          | (refine arI trivial (by omega) ?_; conv => whnf)
          | (refine arU trivial (by omega) ?_; conv => whnf)
          | (refine arB trivial (by omega) ?_; conv => whnf)
          | (refine drawI (by decide +kernel) ?_; conv => whnf)
          | (refine drawR (by decide +kernel) ?_; conv => whnf)
          | (refine drawP (by decide +kernel) ?_; conv => whnf)
          | (refine boxP rfl ?_; conv => whnf)
          | (refine appI _ rfl (by first | omega | (dsimp only; omega) | (simp only [List.length_cons, List.length_nil, List.length_append]; omega)) ?_; conv => whnf)
          | (refine rowSetI _ rfl ?_; conv => whnf)
          | (refine cmpT (by omega) ?_; conv => whnf)
          | (refine cmpF (by omega) ?_; conv => whnf)
          | (refine cmpI (fun _ => ?_) (fun _ => ?_) <;> conv => whnf))
      all_goals exact ⟨av_int (by rw [if_neg (fun h => h2 (h.1 k (by omega)))]), rfl⟩
  have hin := inR_scan ha (by omega)
  by_cases h3 : 0 ≤ c.correct ∧ c.correct ≤ c.states.length
  · repeat' (first
        | (refine needI (by first | omega | (dsimp only; omega)) ?_; conv => whnf)
        | (refine arI trivial (by omega) ?_; conv => whnf)
        | (refine cmpT (by omega) ?_; conv => whnf)
        | (refine cmpF (by omega) ?_; conv => whnf)
        | fail)
    exact ⟨av_int (by rw [if_pos ⟨hin, h3⟩]), rfl⟩
  · repeat' (first
        | (refine needI (by first | omega | (dsimp only; omega)) ?_; conv => whnf)
        | (refine arI trivial (by omega) ?_; conv => whnf)
        | (refine arU trivial (by omega) ?_; conv => whnf)
        | (refine arB trivial (by omega) ?_; conv => whnf)
        | (refine drawI (by decide +kernel) ?_; conv => whnf)
        | (refine drawR (by decide +kernel) ?_; conv => whnf)
        | (refine drawP (by decide +kernel) ?_; conv => whnf)
        | (refine boxP rfl ?_; conv => whnf)
        | (refine appI _ rfl (by first | omega | (dsimp only; omega) | (simp only [List.length_cons, List.length_nil, List.length_append]; omega)) ?_; conv => whnf)
        | (refine rowSetI _ rfl ?_; conv => whnf)
        | (refine cmpT (by omega) ?_; conv => whnf)
        | (refine cmpF (by omega) ?_; conv => whnf)
        | (refine cmpI (fun _ => ?_) (fun _ => ?_) <;> conv => whnf))
    all_goals exact ⟨av_int (by rw [if_neg (fun h => h3 h.2)]), rfl⟩
theorem plainF (p : Pro) (c : Cfg) (hp : ¬ bigP p) (hw : wideB c = false) : PSpec Tryz.prog 28 [.agg (encP p), .agg (encC c), .bool true] (fun u => u = .int .i64 (if plB p c ∧ trB p c then 0 else 1)) := by
  have hle := bigP_le hp
  have hc := wide_le hw
  refine PSpec.intro tt_ok mx_ok Tryz.func28 rfl (by decide) ?_; (conv => whnf)
  refine boxP rfl ?_
  conv => whnf
  refine boxP rfl ?_
  conv => whnf
  refine WPc.loopF tt_ok mx_ok (fun k : Nat => k ≤ c.states.length ∧ ∀ j, j < k → 0 ≤ c.states.getD j 0 ∧ c.states.getD j 0 < p.states.length) (fun k => [(12, .int .i64 (k : Int))]) (fun _ => []) (fun k => c.states.length - k) 0 ⟨by omega, fun j hj => by omega⟩ ?_; conv => whnf
  refine ⟨(Sub.id_ 400 rfl auto_ auto_), ?_⟩
  rintro k ⟨hk, ha⟩
  conv => whnf
  refine cmpI (fun h1 => ?_) (fun h1 => ?_) <;> conv => whnf
  · refine needI (by omega) ?_
    rw [Int.toNat_natCast]
    conv => whnf
    by_cases h2 : 0 ≤ c.states.getD k 0 ∧ c.states.getD k 0 < p.states.length
    · repeat' (first
          | (refine needI (by first | omega | (dsimp only; omega)) ?_; conv => whnf)
          | (refine arI trivial (by omega) ?_; conv => whnf)
          | (refine cmpT (by omega) ?_; conv => whnf)
          | (refine cmpF (by omega) ?_; conv => whnf)
          | fail)
      refine ⟨k + 1, (Sub.id_ 400 rfl auto_ auto_), ⟨by omega, fun j hj => ?_⟩, by dsimp only; omega⟩
      by_cases e : j = k
      · subst e; exact h2
      · exact ha j (by omega)
    · repeat' (first
          | (refine needI (by first | omega | (dsimp only; omega)) ?_; conv => whnf)
          | (refine arI trivial (by omega) ?_; conv => whnf)
          | (refine arU trivial (by omega) ?_; conv => whnf)
          | (refine arB trivial (by omega) ?_; conv => whnf)
          | (refine drawI (by decide +kernel) ?_; conv => whnf)
          | (refine drawR (by decide +kernel) ?_; conv => whnf)
          | (refine drawP (by decide +kernel) ?_; conv => whnf)
          | (refine boxP rfl ?_; conv => whnf)
          | (refine appI _ rfl (by first | omega | (dsimp only; omega) | (simp only [List.length_cons, List.length_nil, List.length_append]; omega)) ?_; conv => whnf)
          | (refine rowSetI _ rfl ?_; conv => whnf)
          | (refine cmpT (by omega) ?_; conv => whnf)
          | (refine cmpF (by omega) ?_; conv => whnf)
          | (refine cmpI (fun _ => ?_) (fun _ => ?_) <;> conv => whnf))
      all_goals exact ⟨av_int (by rw [if_neg (fun h => h2 (h.1.1 k (by omega)))]), rfl⟩
  have hin := inR_scan ha (by omega)
  by_cases h3 : 0 ≤ c.correct ∧ c.correct ≤ c.states.length
  case neg =>
    repeat' (first
        | (refine needI (by first | omega | (dsimp only; omega)) ?_; conv => whnf)
        | (refine arI trivial (by omega) ?_; conv => whnf)
        | (refine arU trivial (by omega) ?_; conv => whnf)
        | (refine arB trivial (by omega) ?_; conv => whnf)
        | (refine drawI (by decide +kernel) ?_; conv => whnf)
        | (refine drawR (by decide +kernel) ?_; conv => whnf)
        | (refine drawP (by decide +kernel) ?_; conv => whnf)
        | (refine boxP rfl ?_; conv => whnf)
        | (refine appI _ rfl (by first | omega | (dsimp only; omega) | (simp only [List.length_cons, List.length_nil, List.length_append]; omega)) ?_; conv => whnf)
        | (refine rowSetI _ rfl ?_; conv => whnf)
        | (refine cmpT (by omega) ?_; conv => whnf)
        | (refine cmpF (by omega) ?_; conv => whnf)
        | (refine cmpI (fun _ => ?_) (fun _ => ?_) <;> conv => whnf))
    all_goals exact ⟨av_int (by rw [if_neg (fun h => h3 h.1.2)]), rfl⟩
  by_cases ht : p.topology = 4
  case neg =>
    repeat' (first
        | (refine needI (by first | omega | (dsimp only; omega)) ?_; conv => whnf)
        | (refine arI trivial (by omega) ?_; conv => whnf)
        | (refine cmpT (by omega) ?_; conv => whnf)
        | (refine cmpF (by omega) ?_; conv => whnf)
        | fail)
    exact ⟨av_int (by rw [if_pos ⟨⟨hin, h3⟩, fun h => absurd h ht⟩]), rfl⟩
  by_cases h4 : c.shape.length = c.states.length
  case neg =>
    repeat' (first
        | (refine needI (by first | omega | (dsimp only; omega)) ?_; conv => whnf)
        | (refine arI trivial (by omega) ?_; conv => whnf)
        | (refine cmpT (by omega) ?_; conv => whnf)
        | (refine cmpF (by omega) ?_; conv => whnf)
        | fail)
    exact ⟨av_int (by rw [if_neg (fun h => h4 (h.2 ht).1)]), rfl⟩
  repeat' (first
      | (refine needI (by first | omega | (dsimp only; omega)) ?_; conv => whnf)
      | (refine arI trivial (by omega) ?_; conv => whnf)
      | (refine cmpT (by omega) ?_; conv => whnf)
      | (refine cmpF (by omega) ?_; conv => whnf)
      | fail)
  have hE := endsF c.shape (by omega)
  by_cases hsh : shp c.shape
  · rw [if_pos hsh] at hE
    (refine Spec.of_pure (n := 5) (hE) rfl ?_; rintro _ rfl; conv => whnf)
    refine needI (endsL_ne hsh) ?_
    conv => whnf
    exact ⟨av_int (by rw [if_pos ⟨⟨hin, h3⟩, fun _ => ⟨h4, hsh⟩⟩]), rfl⟩
  · rw [if_neg hsh] at hE
    (refine Spec.of_pure (n := 5) (hE) rfl ?_; rintro _ rfl; conv => whnf)
    exact ⟨av_int (by rw [if_neg (fun h => hsh (h.2 ht).2)]), rfl⟩
theorem plainR (p : Pro) (c : Cfg) (hp : ¬ bigP p) (hw : wideB c = false) : PSpec Tryz.prog 31 [.agg (encP p), .agg (encC c)] (fun u => u = .bool (decide (plB p c))) := by
  have hle := bigP_le hp
  have hc := wide_le hw
  refine PSpec.intro tt_ok mx_ok Tryz.func31 rfl (by decide) ?_; (conv => whnf)
  refine boxP rfl ?_
  conv => whnf
  refine boxP rfl ?_
  conv => whnf
  refine Spec.dcall (n := 5) (statesR p c.states (by omega) (by omega)) rfl (fun _ => ?_) (fun _ => ?_) <;> (conv => whnf)
  case refine_2 => rename_i h; exact ⟨dec_f (fun hh => h hh.1), rfl⟩
  rename_i h
  refine Spec.dcall (n := 5) (withinT _ _ _) rfl (fun _ => ?_) (fun _ => ?_) <;> (conv => whnf)
  · rename_i h2; exact ⟨dec_t ⟨h, h2⟩, rfl⟩
  · rename_i h2; exact ⟨dec_f (fun hh => h2 hh.2), rfl⟩

/-- all correct processes are in the goal -/
def rchB (q : Prp) (c : Cfg) : Prop := ∀ j : Nat, (j : Int) < c.correct → c.states.getD j 0 ∈ q.goal
noncomputable instance decRch (q : Prp) (c : Cfg) : Decidable (rchB q c) := Classical.propDecidable _
theorem getD_take {l : List Int} {k n : Nat} (h : k < n) : (l.take n).getD k 0 = l.getD k 0 := by
  rw [List.getD_eq_getElem?_getD, List.getD_eq_getElem?_getD, List.getElem?_take, if_pos h]
theorem reachedF (q : Prp) (c : Cfg) (hq : ¬ bigQ q) (hw : wideB c = false) (hc0 : 0 ≤ c.correct ∧ c.correct ≤ c.states.length) : PSpec Tryz.prog 37 [.agg (encQ q), .agg (encC c)] (fun u => u = .bool (decide (rchB q c))) := by
  have hlq := bigQ_le hq
  have hc := wide_le hw
  have hlen : (c.states.take c.correct.toNat).length = c.correct.toNat := by rw [List.length_take]; omega
  refine PSpec.intro tt_ok mx_ok Tryz.func37 rfl (by decide) ?_; (conv => whnf)
  refine boxP rfl ?_
  conv => whnf
  refine boxP rfl ?_
  conv => whnf
  refine needI (by omega) ?_
  conv => whnf
  refine WPc.loopF tt_ok mx_ok (fun k : Nat => k ≤ c.correct.toNat ∧ ∀ j, j < k → c.states.getD j 0 ∈ q.goal) (fun k => [(13, .int .i64 (k : Int))]) (fun _ => []) (fun k => c.correct.toNat - k) 0 ⟨by omega, fun j hj => by omega⟩ ?_; conv => whnf
  refine ⟨(Sub.id_ 400 rfl auto_ auto_), ?_⟩
  rintro k ⟨hk, ha⟩
  conv => whnf
  refine cmpI (fun h1 => ?_) (fun h1 => ?_) <;> conv => whnf
  · refine needI (by omega) ?_
    rw [Int.toNat_natCast]
    conv => whnf
    refine Spec.dcall (n := 5) (iContainsF q.goal _ (by omega)) rfl (fun _ => ?_) (fun _ => ?_) <;> (conv => whnf)
    · rename_i h2
      rw [getD_take (by omega)] at h2
      repeat' (first
          | (refine needI (by first | omega | (dsimp only; omega)) ?_; conv => whnf)
          | (refine arI trivial (by omega) ?_; conv => whnf)
          | (refine cmpT (by omega) ?_; conv => whnf)
          | (refine cmpF (by omega) ?_; conv => whnf)
          | fail)
      refine ⟨k + 1, (Sub.id_ 400 rfl auto_ auto_), ⟨by omega, fun j hj => ?_⟩, by dsimp only; omega⟩
      by_cases e : j = k
      · subst e; exact h2
      · exact ha j (by omega)
    · rename_i h2
      rw [getD_take (by omega)] at h2
      exact ⟨dec_f (fun h => h2 (h k (by omega))), rfl⟩
  · exact ⟨dec_t (fun j hj => ha j (by omega)), rfl⟩
theorem reachedR (q : Prp) (c : Cfg) (hq : ¬ bigQ q) (hw : wideB c = false) (hc0 : 0 ≤ c.correct ∧ c.correct ≤ c.states.length) : PSpec Tryz.prog 48 [.agg (encQ q), .agg (encC c)] (fun u => u = .bool (decide (rchB q c))) := by
  have hlq := bigQ_le hq
  have hc := wide_le hw
  refine PSpec.intro tt_ok mx_ok Tryz.func48 rfl (by decide) ?_; (conv => whnf)
  refine boxP rfl ?_
  conv => whnf
  refine boxP rfl ?_
  conv => whnf
  refine WPc.loopF tt_ok mx_ok (fun k : Nat => k ≤ c.correct.toNat ∧ ∀ j, j < k → c.states.getD j 0 ∈ q.goal) (fun k => [(5, .int .i64 (k : Int))]) (fun _ => []) (fun k => c.correct.toNat - k) 0 ⟨by omega, fun j hj => by omega⟩ ?_; conv => whnf
  refine ⟨(Sub.id_ 400 rfl auto_ auto_), ?_⟩
  rintro k ⟨hk, ha⟩
  conv => whnf
  refine cmpI (fun h1 => ?_) (fun h1 => ?_) <;> conv => whnf
  · refine drawI (by decide +kernel) ?_
    conv => whnf
    refine needI (by omega) ?_
    rw [Int.toNat_natCast]
    conv => whnf
    refine callD 5 (hasR q.goal _ (by omega)) rfl (fun _ => ?_) (fun _ => ?_) <;> (conv => whnf)
    · rename_i h2
      repeat' (first
          | (refine needI (by first | omega | (dsimp only; omega)) ?_; conv => whnf)
          | (refine arI trivial (by omega) ?_; conv => whnf)
          | (refine cmpT (by omega) ?_; conv => whnf)
          | (refine cmpF (by omega) ?_; conv => whnf)
          | fail)
      refine ⟨k + 1, (Sub.id_ 400 rfl auto_ auto_), ⟨by omega, fun j hj => ?_⟩, by dsimp only; omega⟩
      by_cases e : j = k
      · subst e; exact h2
      · exact ha j (by omega)
    · rename_i h2
      exact ⟨dec_f (fun h => h2 (h k (by omega))), rfl⟩
  · exact ⟨dec_t (fun j hj => ha j (by omega)), rfl⟩
noncomputable def rcE (p : Pro) (q : Prp) (c : Cfg) : AV :=
  if propE p q ≠ 0 then .tup [.bool false, .int .i64 (propE p q)] else if q.kind ≠ 2 then .tup [.bool false, .int .i64 7] else if plB p c then .tup [.bool (decide (rchB q c)), .int .i64 0] else .tup [.bool false, .int .i64 1]
theorem ReachedF (p : Pro) (q : Prp) (c : Cfg) (hp : ¬ bigP p) (hq : ¬ bigQ q) (hw : wideB c = false) : PSpec Tryz.prog 18 [.agg (encP p), .agg (encQ q), .agg (encC c)] (fun u => u = rcE p q c) := by
  have he := rcE.eq_1 p q c
  refine PSpec.intro tt_ok mx_ok Tryz.func18 rfl (by decide) ?_; (conv => whnf)
  refine boxP rfl ?_
  conv => whnf
  refine boxP rfl ?_
  conv => whnf
  refine boxP rfl ?_
  conv => whnf
  (refine Spec.of_pure (n := 5) (propertyF p q hp hq) rfl ?_; rintro _ rfl; conv => whnf)
  refine cmpI (fun h1 => ?_) (fun h1 => ?_) <;> conv => whnf
  · rw [if_pos h1] at he; exact ⟨he.symm, rfl⟩
  rw [if_neg h1] at he
  refine cmpI (fun h2 => ?_) (fun h2 => ?_) <;> conv => whnf
  · rw [if_pos h2] at he; exact ⟨he.symm, rfl⟩
  rw [if_neg h2] at he
  (refine Spec.of_pure (n := 5) (plainN p c hp hw) rfl ?_; rintro _ rfl; conv => whnf)
  by_cases h3 : plB p c
  · rw [if_pos h3] at he
    rw [if_pos h3]
    repeat' (first
        | (refine needI (by first | omega | (dsimp only; omega)) ?_; conv => whnf)
        | (refine arI trivial (by omega) ?_; conv => whnf)
        | (refine cmpT (by omega) ?_; conv => whnf)
        | (refine cmpF (by omega) ?_; conv => whnf)
        | fail)
    (refine Spec.of_pure (n := 5) (reachedF q c hq hw h3.2) rfl ?_; rintro _ rfl; conv => whnf)
    exact ⟨he.symm, rfl⟩
  · rw [if_neg h3] at he
    rw [if_neg h3]
    repeat' (first
        | (refine needI (by first | omega | (dsimp only; omega)) ?_; conv => whnf)
        | (refine arI trivial (by omega) ?_; conv => whnf)
        | (refine cmpT (by omega) ?_; conv => whnf)
        | (refine cmpF (by omega) ?_; conv => whnf)
        | fail)
    exact ⟨he.symm, rfl⟩
end Go.Proofs.YtcbckmnbdcjeeaaGreatDoor
