
/-
  Bad of any arguments; the law UnfoldJudges.
-/
import Derived.Test.YtcbckmnbdcjeeaaGreatDoorFoD
set_option linter.unusedVariables false
set_option linter.unusedSimpArgs false
namespace Go.Proofs.YtcbckmnbdcjeeaaGreatDoor
set_option maxRecDepth 100000
set_option maxHeartbeats 8000000

noncomputable def bdE (p : Pro) (q : Prp) (c : Cfg) : AV :=
  if propE p q ≠ 0 then .tup [.bool false, .int .i64 (propE p q)] else if q.kind ≠ 1 then .tup [.bool false, .int .i64 7] else if plB p c ∧ trB p c then .tup [.bool (decide (badB p q c)), .int .i64 0] else .tup [.bool false, .int .i64 1]
theorem BadF (p : Pro) (q : Prp) (c : Cfg) (hp : ¬ bigP p) (hq : ¬ bigQ q) (hw : wideB c = false) : PSpec Tryz.prog 17 [.agg (encP p), .agg (encQ q), .agg (encC c)] (fun u => u = bdE p q c) := by
  have he := bdE.eq_1 p q c
  refine PSpec.intro tt_ok mx_ok Tryz.func17 rfl (by decide) ?_; (conv => whnf)
  refine boxP rfl ?_
  conv => whnf
  refine boxP rfl ?_
  conv => whnf
  refine boxP rfl ?_
  conv => whnf
  (refine Spec.of_pure (n := 5) (propertyF p q hp hq) rfl ?_; rintro _ rfl; conv => whnf)
  refine cmpI (fun h1 => ?_) (fun h1 => ?_) <;> conv => whnf
  · rw [if_pos h1] at he; exact ⟨he.symm, rfl⟩
  rw [if_neg h1] at he
  refine cmpI (fun h2 => ?_) (fun h2 => ?_) <;> conv => whnf
  · rw [if_pos h2] at he; exact ⟨he.symm, rfl⟩
  rw [if_neg h2] at he
  (refine Spec.of_pure (n := 5) (plainF p c hp hw) rfl ?_; rintro _ rfl; conv => whnf)
  by_cases h3 : plB p c ∧ trB p c
  · rw [if_pos h3] at he
    rw [if_pos h3]
    repeat' (first
        | (refine needI (by first | omega | (dsimp only; omega)) ?_; conv => whnf)
        | (refine arI trivial (by omega) ?_; conv => whnf)
        | (refine cmpT (by omega) ?_; conv => whnf)
        | (refine cmpF (by omega) ?_; conv => whnf)
        | fail)
    (refine Spec.of_pure (n := 5) (badF p q c hp hq hw h3.1 (prop_ok (by omega) (by omega))) rfl ?_; rintro _ rfl; conv => whnf)
    exact ⟨he.symm, rfl⟩
  · rw [if_neg h3] at he
    rw [if_neg h3]
    repeat' (first
        | (refine needI (by first | omega | (dsimp only; omega)) ?_; conv => whnf)
        | (refine arI trivial (by omega) ?_; conv => whnf)
        | (refine cmpT (by omega) ?_; conv => whnf)
        | (refine cmpF (by omega) ?_; conv => whnf)
        | fail)
    exact ⟨he.symm, rfl⟩
theorem bdE_form (p : Pro) (q : Prp) (c : Cfg) : ∃ (b : Bool) (e : Int), bdE p q c = .tup [.bool b, .int .i64 e] := by
  unfold bdE
  (repeat' split) <;> exact ⟨_, _, rfl⟩
theorem rcE_form (p : Pro) (q : Prp) (c : Cfg) : ∃ (b : Bool) (e : Int), rcE p q c = .tup [.bool b, .int .i64 e] := by
  unfold rcE
  (repeat' split) <;> exact ⟨_, _, rfl⟩
end Go.Proofs.YtcbckmnbdcjeeaaGreatDoor
