
/-
  Bad of any arguments; the law UnfoldJudges.
-/
import Derived.Test.YthdneadmhfnchaaGreatDoorFoD
set_option linter.unusedVariables false
set_option linter.unusedSimpArgs false
namespace Go.Proofs.YthdneadmhfnchaaGreatDoor
set_option maxRecDepth 100000
set_option maxHeartbeats 8000000

noncomputable def bdE (p : Pro) (q : Prp) (c : Cfg) : AV :=
  if propE p q ≠ 0 then .tup [.bool false, .int .i64 (propE p q)] else if q.kind ≠ 1 then .tup [.bool false, .int .i64 7] else if plB p c ∧ trB p c then .tup [.bool (decide (badB p q c)), .int .i64 0] else .tup [.bool false, .int .i64 1]
theorem BadF (p : Pro) (q : Prp) (c : Cfg) (hp : ¬ bigP p) (hq : ¬ bigQ q) (hw : wideB c = false) : PSpec Tryz.prog 21 [.agg (encP p), .agg (encQ q), .agg (encC c)] (fun u => u = bdE p q c) := by
  have he := bdE.eq_1 p q c
  refine PSpec.intro tt_ok mx_ok Tryz.func21 rfl (by decide) ?_; (conv => whnf)
  refine boxP rfl ?_
  conv => whnf
  refine boxP rfl ?_
  conv => whnf
  refine boxP rfl ?_
  conv => whnf
  (refine Spec.of_pure (n := 5) (propertyF p q hp hq) rfl ?_; rintro _ rfl; conv => whnf)
  refine cmpI (fun h1 => ?_) (fun h1 => ?_) <;> conv => whnf
  · rw [if_pos h1] at he; exact ⟨he.symm, rfl⟩
  rw [if_neg h1] at he
  refine cmpI (fun h2 => ?_) (fun h2 => ?_) <;> conv => whnf
  · rw [if_pos h2] at he; exact ⟨he.symm, rfl⟩
  rw [if_neg h2] at he
  (refine Spec.of_pure (n := 5) (plainF p c hp hw) rfl ?_; rintro _ rfl; conv => whnf)
  by_cases h3 : plB p c ∧ trB p c
  · rw [if_pos h3] at he
    rw [if_pos h3]
    repeat' (first
        | (refine needI (by first | omega | (dsimp only; omega)) ?_; conv => whnf)
        | (refine arI trivial (by omega) ?_; conv => whnf)
        | (refine cmpT (by omega) ?_; conv => whnf)
        | (refine cmpF (by omega) ?_; conv => whnf)
        | fail)
    (refine Spec.of_pure (n := 5) (badF p q c hp hq hw h3.1 (prop_ok (by omega) (by omega))) rfl ?_; rintro _ rfl; conv => whnf)
    exact ⟨he.symm, rfl⟩
  · rw [if_neg h3] at he
    rw [if_neg h3]
    repeat' (first
        | (refine needI (by first | omega | (dsimp only; omega)) ?_; conv => whnf)
        | (refine arI trivial (by omega) ?_; conv => whnf)
        | (refine cmpT (by omega) ?_; conv => whnf)
        | (refine cmpF (by omega) ?_; conv => whnf)
        | fail)
    exact ⟨he.symm, rfl⟩
theorem BadR (p : Pro) (q : Prp) (c : Cfg) (hp : ¬ bigP p) (hq : ¬ bigQ q) (hw : wideB c = false) : PSpec Tryz.prog 22 [.agg (encP p), .agg (encQ q), .agg (encC c)] (fun u => u = bdE p q c) := by
  have he := bdE.eq_1 p q c
  have hc := wide_le hw
  refine PSpec.intro tt_ok mx_ok Tryz.func22 rfl (by decide) ?_; (conv => whnf)
  refine boxP rfl ?_
  conv => whnf
  refine boxP rfl ?_
  conv => whnf
  refine boxP rfl ?_
  conv => whnf
  (refine Spec.of_pure (n := 5) (propertyR p q hp hq) rfl ?_; rintro _ rfl; conv => whnf)
  refine cmpI (fun h1 => ?_) (fun h1 => ?_) <;> conv => whnf
  · rw [if_pos h1] at he; exact ⟨he.symm, rfl⟩
  rw [if_neg h1] at he
  refine cmpI (fun h2 => ?_) (fun h2 => ?_) <;> conv => whnf
  · rw [if_pos h2] at he; exact ⟨he.symm, rfl⟩
  rw [if_neg h2] at he
  have hok := (prop_ok (p := p) (q := q) (by omega) (by omega)).2
  refine Spec.dcall (n := 5) (plainR p c hp hw) rfl (fun _ => ?_) (fun _ => ?_) <;> (conv => whnf)
  case refine_2 =>
    rename_i h3
    rw [if_neg (fun h => h3 h.1)] at he
    exact ⟨he.symm, rfl⟩
  rename_i h3
  by_cases ht : p.topology = 4
  · by_cases h4 : c.shape.length = c.states.length
    · repeat' (first
          | (refine needI (by first | omega | (dsimp only; omega)) ?_; conv => whnf)
          | (refine arI trivial (by omega) ?_; conv => whnf)
          | (refine cmpT (by omega) ?_; conv => whnf)
          | (refine cmpF (by omega) ?_; conv => whnf)
          | fail)
      refine Spec.dcall (n := 5) (isShapeD c.shape (by omega)) rfl (fun _ => ?_) (fun _ => ?_) <;> (conv => whnf)
      · rename_i h5
        rw [if_pos ⟨h3, fun _ => ⟨h4, h5⟩⟩] at he
        (refine Spec.of_pure (n := 5) (badR p q c hp hq hw h3 hok) rfl ?_; rintro _ rfl; conv => whnf)
        exact ⟨he.symm, rfl⟩
      · rename_i h5
        rw [if_neg (fun h => h5 (h.2 ht).2)] at he
        exact ⟨he.symm, rfl⟩
    · rw [if_neg (fun h => h4 (h.2 ht).1)] at he
      repeat' (first
          | (refine needI (by first | omega | (dsimp only; omega)) ?_; conv => whnf)
          | (refine arI trivial (by omega) ?_; conv => whnf)
          | (refine cmpT (by omega) ?_; conv => whnf)
          | (refine cmpF (by omega) ?_; conv => whnf)
          | fail)
      exact ⟨he.symm, rfl⟩
  · rw [if_pos ⟨h3, fun h => absurd h ht⟩] at he
    repeat' (first
        | (refine needI (by first | omega | (dsimp only; omega)) ?_; conv => whnf)
        | (refine arI trivial (by omega) ?_; conv => whnf)
        | (refine cmpT (by omega) ?_; conv => whnf)
        | (refine cmpF (by omega) ?_; conv => whnf)
        | fail)
    (refine Spec.of_pure (n := 5) (badR p q c hp hq hw h3 hok) rfl ?_; rintro _ rfl; conv => whnf)
    exact ⟨he.symm, rfl⟩
theorem bdE_form (p : Pro) (q : Prp) (c : Cfg) : ∃ (b : Bool) (e : Int), bdE p q c = .tup [.bool b, .int .i64 e] := by
  unfold bdE
  (repeat' split) <;> exact ⟨_, _, rfl⟩
theorem rcE_form (p : Pro) (q : Prp) (c : Cfg) : ∃ (b : Bool) (e : Int), rcE p q c = .tup [.bool b, .int .i64 e] := by
  unfold rcE
  (repeat' split) <;> exact ⟨_, _, rfl⟩
theorem lawJudges (p : Pro) (q : Prp) (c : Cfg) : PSpec Tryz.prog 4 [.agg (encP p), .agg (encQ q), .agg (encC c)] (fun u => u = .bool true) := by
  refine PSpec.intro tt_ok mx_ok Tryz.func4 rfl (by decide) ?_; (conv => whnf)
  refine boxP rfl ?_
  conv => whnf
  refine boxP rfl ?_
  conv => whnf
  refine boxP rfl ?_
  conv => whnf
  refine Spec.dcall (n := 5) (bigF p) rfl (fun _ => ?_) (fun _ => ?_) <;> (conv => whnf)
  · (refine Spec.of_pure (n := 5) (knownF) rfl ?_; rintro _ rfl; conv => whnf)
    exact ⟨rfl, rfl⟩
  rename_i hp
  refine Spec.dcall (n := 5) (bigQF q) rfl (fun _ => ?_) (fun _ => ?_) <;> (conv => whnf)
  · (refine Spec.of_pure (n := 5) (knownF) rfl ?_; rintro _ rfl; conv => whnf)
    exact ⟨rfl, rfl⟩
  rename_i hq
  have hW := wideF c
  cases hw : wideB c with
  | true =>
    rw [hw] at hW
    (refine Spec.of_pure (n := 5) (hW) rfl ?_; rintro _ rfl; conv => whnf)
    (refine Spec.of_pure (n := 5) (knownF) rfl ?_; rintro _ rfl; conv => whnf)
    exact ⟨rfl, rfl⟩
  | false =>
    rw [hw] at hW
    (refine Spec.of_pure (n := 5) (hW) rfl ?_; rintro _ rfl; conv => whnf)
    have b1 := BadF p q c hp hq hw
    have b2 := BadR p q c hp hq hw
    have b3 := ReachedF p q c hp hq hw
    have b4 := ReachedR p q c hp hq hw
    obtain ⟨a, e, h1⟩ := bdE_form p q c
    obtain ⟨a', e', h2⟩ := rcE_form p q c
    rw [h1] at b1 b2
    rw [h2] at b3 b4
    cases a <;> cases a'
    all_goals
      (refine Spec.of_pure (n := 5) (b1) rfl ?_; rintro _ rfl; conv => whnf)
      (refine Spec.of_pure (n := 5) (b2) rfl ?_; rintro _ rfl; conv => whnf)
      (refine Spec.of_pure (n := 5) (b3) rfl ?_; rintro _ rfl; conv => whnf)
      (refine Spec.of_pure (n := 5) (b4) rfl ?_; rintro _ rfl; conv => whnf)
      repeat' (first
          | (refine needI (by first | omega | (dsimp only; omega)) ?_; conv => whnf)
          | (refine arI trivial (by omega) ?_; conv => whnf)
          | (refine cmpT (by omega) ?_; conv => whnf)
          | (refine cmpF (by omega) ?_; conv => whnf)
          | fail)
      (refine Spec.of_pure (n := 5) (knownF) rfl ?_; rintro _ rfl; conv => whnf)
      exact ⟨rfl, rfl⟩
end Go.Proofs.YthdneadmhfnchaaGreatDoor
