
/-
  Enabled and Forced of any arguments; the laws UnfoldEnables and UnfoldForces.
-/
import Derived.Test.YthdneadmhfnchaaGreatDoorFoL
set_option linter.unusedVariables false
set_option linter.unusedSimpArgs false
namespace Go.Proofs.YthdneadmhfnchaaGreatDoor
set_option maxRecDepth 100000
set_option maxHeartbeats 16000000

/-- a pair of a rule and a process is forced -/
def fcB (p : Pro) (s : Siz) (c : Cfg) (r i : Int) : Prop := i < c.correct ∧ ∃ k : Nat, k ≤ c.states.length ∧ enB p s c ⟨r, i, (k : Int) - 1⟩ true
noncomputable instance decFc (p : Pro) (s : Siz) (c : Cfg) (r i : Int) : Decidable (fcB p s c r i) := Classical.propDecidable _
theorem forcedV (p : Pro) (s : Siz) (c : Cfg) (r i : Int) (h : Rdy p s c) : PSpec Tryz.prog 72 [.agg (encV p s c), .int .i64 r, .int .i64 i] (fun u => u = .bool (decide (fcB p s c r i))) := by
  have hc := wide_le h.wide
  refine PSpec.intro tt_ok mx_ok Tryz.func72 rfl (by decide) ?_; (conv => whnf)
  refine boxP rfl ?_
  conv => whnf
  refine cmpI (fun h1 => ?_) (fun h1 => ?_) <;> conv => whnf
  · exact ⟨dec_f (fun hh => by obtain ⟨_, k, _, he⟩ := hh; have := he.1.2.1; dsimp only at this; omega), rfl⟩
  refine cmpI (fun h2 => ?_) (fun h2 => ?_) <;> conv => whnf
  · exact ⟨dec_f (fun hh => by have := hh.1; omega), rfl⟩
  refine WPc.loopF tt_ok mx_ok (fun k : Nat => k ≤ c.states.length + 1 ∧ ∀ j : Nat, j < k → ¬ enB p s c ⟨r, i, (j : Int) - 1⟩ true) (fun k => [(7, .int .i64 ((k : Int) - 1))]) (fun _ => []) (fun k => c.states.length + 1 - k) 0 ⟨by omega, fun j hj => by omega⟩ ?_; conv => whnf
  refine ⟨(Sub.id_ 400 rfl (by repeat' (first | exact True.intro | exact rfl | (refine And.intro ?_ ?_) | ((conv => whnf); omega) | ((conv => whnf); simp only [List.length_append, List.length_cons, List.length_nil]; done) | ((conv => whnf); simp only [List.length_append, List.length_cons, List.length_nil]; omega))) (by repeat' (first | exact True.intro | exact rfl | (refine And.intro ?_ ?_) | ((conv => whnf); omega) | ((conv => whnf); simp only [List.length_append, List.length_cons, List.length_nil]; done) | ((conv => whnf); simp only [List.length_append, List.length_cons, List.length_nil]; omega)))), ?_⟩
  rintro k ⟨hk, ha⟩
  conv => whnf
  refine cmpI (fun h3 => ?_) (fun h3 => ?_) <;> conv => whnf
  · refine Spec.dcall (n := 5) (enabledV p s c ⟨r, i, (k : Int) - 1⟩ true h) rfl (fun _ => ?_) (fun _ => ?_) <;> (conv => whnf)
    · rename_i h4
      exact ⟨dec_t ⟨by omega, k, by omega, h4⟩, rfl⟩
    · rename_i h4
      repeat' (first
          | (refine needI (by first | omega | (dsimp only; omega)) ?_; conv => whnf)
          | (refine arI trivial (by omega) ?_; conv => whnf)
          | (refine cmpT (by omega) ?_; conv => whnf)
          | (refine cmpF (by omega) ?_; conv => whnf)
          | fail)
      refine ⟨k + 1, (Sub.id_ 400 rfl (by repeat' (first | exact True.intro | exact rfl | (refine And.intro ?_ ?_) | ((conv => whnf); omega) | ((conv => whnf); simp only [List.length_append, List.length_cons, List.length_nil]; done) | ((conv => whnf); simp only [List.length_append, List.length_cons, List.length_nil]; omega))) (by repeat' (first | exact True.intro | exact rfl | (refine And.intro ?_ ?_) | ((conv => whnf); omega) | ((conv => whnf); simp only [List.length_append, List.length_cons, List.length_nil]; done) | ((conv => whnf); simp only [List.length_append, List.length_cons, List.length_nil]; omega)))), ⟨by omega, fun j hj => ?_⟩, by dsimp only; omega⟩
      by_cases e : j = k
      · subst e; exact h4
      · exact ha j (by omega)
  · exact ⟨dec_f (fun ⟨_, j, hj, he⟩ => ha j (by omega) he), rfl⟩
theorem isForcedR (p : Pro) (s : Siz) (c : Cfg) (r i : Int) (h : Rdy p s c) : PSpec Tryz.prog 73 [.agg (encP p), .agg (encZ s), .agg (encC c), .int .i64 r, .int .i64 i] (fun u => u = .bool (decide (fcB p s c r i))) := by
  have hc := wide_le h.wide
  refine PSpec.intro tt_ok mx_ok Tryz.func73 rfl (by decide) ?_; (conv => whnf)
  refine boxP rfl ?_
  conv => whnf
  refine boxP rfl ?_
  conv => whnf
  refine boxP rfl ?_
  conv => whnf
  refine cmpI (fun h2 => ?_) (fun h2 => ?_) <;> conv => whnf
  · exact ⟨dec_f (fun hh => by have := hh.1; omega), rfl⟩
  refine WPc.loopF tt_ok mx_ok (fun k : Nat => k ≤ c.states.length + 1 ∧ ∀ j : Nat, j < k → ¬ enB p s c ⟨r, i, (j : Int) - 1⟩ true) (fun k => [(11, .int .i64 ((k : Int) - 1))]) (fun _ => []) (fun k => c.states.length + 1 - k) 0 ⟨by omega, fun j hj => by omega⟩ ?_; conv => whnf
  refine ⟨(Sub.id_ 400 rfl (by repeat' (first | exact True.intro | exact rfl | (refine And.intro ?_ ?_) | ((conv => whnf); omega) | ((conv => whnf); simp only [List.length_append, List.length_cons, List.length_nil]; done) | ((conv => whnf); simp only [List.length_append, List.length_cons, List.length_nil]; omega))) (by repeat' (first | exact True.intro | exact rfl | (refine And.intro ?_ ?_) | ((conv => whnf); omega) | ((conv => whnf); simp only [List.length_append, List.length_cons, List.length_nil]; done) | ((conv => whnf); simp only [List.length_append, List.length_cons, List.length_nil]; omega)))), ?_⟩
  rintro k ⟨hk, ha⟩
  conv => whnf
  refine cmpI (fun h3 => ?_) (fun h3 => ?_) <;> conv => whnf
  · refine Spec.dcall (n := 5) (enabledR p s c ⟨r, i, (k : Int) - 1⟩ true h) rfl (fun _ => ?_) (fun _ => ?_) <;> (conv => whnf)
    · rename_i h4
      exact ⟨dec_t ⟨by omega, k, by omega, h4⟩, rfl⟩
    · rename_i h4
      repeat' (first
          | (refine needI (by first | omega | (dsimp only; omega)) ?_; conv => whnf)
          | (refine arI trivial (by omega) ?_; conv => whnf)
          | (refine cmpT (by omega) ?_; conv => whnf)
          | (refine cmpF (by omega) ?_; conv => whnf)
          | fail)
      refine ⟨k + 1, (Sub.id_ 400 rfl (by repeat' (first | exact True.intro | exact rfl | (refine And.intro ?_ ?_) | ((conv => whnf); omega) | ((conv => whnf); simp only [List.length_append, List.length_cons, List.length_nil]; done) | ((conv => whnf); simp only [List.length_append, List.length_cons, List.length_nil]; omega))) (by repeat' (first | exact True.intro | exact rfl | (refine And.intro ?_ ?_) | ((conv => whnf); omega) | ((conv => whnf); simp only [List.length_append, List.length_cons, List.length_nil]; done) | ((conv => whnf); simp only [List.length_append, List.length_cons, List.length_nil]; omega)))), ⟨by omega, fun j hj => ?_⟩, by dsimp only; omega⟩
      by_cases e : j = k
      · subst e; exact h4
      · exact ha j (by omega)
  · exact ⟨dec_f (fun ⟨_, j, hj, he⟩ => ha j (by omega) he), rfl⟩

/-- an answer behind the errors of a configuration -/
noncomputable def ansE (p : Pro) (s : Siz) (c : Cfg) (q : Prop) : AV := if vconE p s c ≠ 0 then .tup [.bool false, .int .i64 (vconE p s c)] else .tup [.bool (@decide q (Classical.propDecidable _)), .int .i64 0]
theorem dec_any {q : Prop} {i j : Decidable q} : AV.tup [.bool (@decide q i), .int .i64 0] = .tup [.bool (@decide q j), .int .i64 0] := by
  have : i = j := Subsingleton.elim i j
  rw [this]
theorem EnabledF (p : Pro) (s : Siz) (c : Cfg) (x : Stp) (hp : ¬ bigP p) (hw : wideB c = false) : PSpec Tryz.prog 29 [.agg (encP p), .agg (encZ s), .agg (encC c), .agg (encX x)] (fun u => u = ansE p s c (enB p s c x false)) := by
  have he := ansE.eq_1 p s c (enB p s c x false)
  refine PSpec.intro tt_ok mx_ok Tryz.func29 rfl (by decide) ?_; (conv => whnf)
  refine boxP rfl ?_
  conv => whnf
  refine boxP rfl ?_
  conv => whnf
  refine boxP rfl ?_
  conv => whnf
  refine boxP rfl ?_
  conv => whnf
  (refine Spec.of_pure (n := 5) (ValidConfigF p s c hp hw) rfl ?_; rintro _ rfl; conv => whnf)
  refine cmpI (fun h1 => ?_) (fun h1 => ?_) <;> conv => whnf
  · rw [if_pos h1] at he; exact ⟨he.symm, rfl⟩
  rw [if_neg h1] at he
  have h := Rdy.of (s := s) hp hw (by omega)
  refine drawI (by decide +kernel) ?_
  conv => whnf
  (refine callPI 5 (seeF p s c hw) rfl ⟨_, rfl⟩ ?_; rintro _ rfl; conv => whnf)
  (refine callPI 5 (enabledV p s c x false h) rfl ⟨_, rfl⟩ ?_; rintro _ rfl; conv => whnf)
  exact ⟨dec_any.trans he.symm, rfl⟩
theorem EnabledR (p : Pro) (s : Siz) (c : Cfg) (x : Stp) (hp : ¬ bigP p) (hw : wideB c = false) : PSpec Tryz.prog 30 [.agg (encP p), .agg (encZ s), .agg (encC c), .agg (encX x)] (fun u => u = ansE p s c (enB p s c x false)) := by
  have he := ansE.eq_1 p s c (enB p s c x false)
  refine PSpec.intro tt_ok mx_ok Tryz.func30 rfl (by decide) ?_; (conv => whnf)
  refine boxP rfl ?_
  conv => whnf
  refine boxP rfl ?_
  conv => whnf
  refine boxP rfl ?_
  conv => whnf
  refine boxP rfl ?_
  conv => whnf
  (refine Spec.of_pure (n := 5) (ValidConfigR p s c hp hw) rfl ?_; rintro _ rfl; conv => whnf)
  refine cmpI (fun h1 => ?_) (fun h1 => ?_) <;> conv => whnf
  · rw [if_pos h1] at he; exact ⟨he.symm, rfl⟩
  rw [if_neg h1] at he
  have h := Rdy.of (s := s) hp hw (by omega)
  (refine Spec.of_pure (n := 5) (enabledR p s c x false h) rfl ?_; rintro _ rfl; conv => whnf)
  exact ⟨dec_any.trans he.symm, rfl⟩
theorem ForcedF (p : Pro) (s : Siz) (c : Cfg) (r i : Int) (hp : ¬ bigP p) (hw : wideB c = false) : PSpec Tryz.prog 32 [.agg (encP p), .agg (encZ s), .agg (encC c), .int .i64 r, .int .i64 i] (fun u => u = ansE p s c (fcB p s c r i)) := by
  have he := ansE.eq_1 p s c (fcB p s c r i)
  refine PSpec.intro tt_ok mx_ok Tryz.func32 rfl (by decide) ?_; (conv => whnf)
  refine boxP rfl ?_
  conv => whnf
  refine boxP rfl ?_
  conv => whnf
  refine boxP rfl ?_
  conv => whnf
  (refine Spec.of_pure (n := 5) (ValidConfigF p s c hp hw) rfl ?_; rintro _ rfl; conv => whnf)
  refine cmpI (fun h1 => ?_) (fun h1 => ?_) <;> conv => whnf
  · rw [if_pos h1] at he; exact ⟨he.symm, rfl⟩
  rw [if_neg h1] at he
  have h := Rdy.of (s := s) hp hw (by omega)
  (refine Spec.of_pure (n := 5) (seeF p s c hw) rfl ?_; rintro _ rfl; conv => whnf)
  (refine Spec.of_pure (n := 5) (forcedV p s c r i h) rfl ?_; rintro _ rfl; conv => whnf)
  exact ⟨dec_any.trans he.symm, rfl⟩
theorem ForcedR (p : Pro) (s : Siz) (c : Cfg) (r i : Int) (hp : ¬ bigP p) (hw : wideB c = false) : PSpec Tryz.prog 33 [.agg (encP p), .agg (encZ s), .agg (encC c), .int .i64 r, .int .i64 i] (fun u => u = ansE p s c (fcB p s c r i)) := by
  have he := ansE.eq_1 p s c (fcB p s c r i)
  refine PSpec.intro tt_ok mx_ok Tryz.func33 rfl (by decide) ?_; (conv => whnf)
  refine boxP rfl ?_
  conv => whnf
  refine boxP rfl ?_
  conv => whnf
  refine boxP rfl ?_
  conv => whnf
  (refine Spec.of_pure (n := 5) (ValidConfigR p s c hp hw) rfl ?_; rintro _ rfl; conv => whnf)
  refine cmpI (fun h1 => ?_) (fun h1 => ?_) <;> conv => whnf
  · rw [if_pos h1] at he; exact ⟨he.symm, rfl⟩
  rw [if_neg h1] at he
  have h := Rdy.of (s := s) hp hw (by omega)
  (refine Spec.of_pure (n := 5) (isForcedR p s c r i h) rfl ?_; rintro _ rfl; conv => whnf)
  exact ⟨dec_any.trans he.symm, rfl⟩
theorem ansE_form (p : Pro) (s : Siz) (c : Cfg) (q : Prop) : ∃ (b : Bool) (e : Int), ansE p s c q = .tup [.bool b, .int .i64 e] := by
  unfold ansE
  split <;> exact ⟨_, _, rfl⟩
theorem lawEnables (p : Pro) (s : Siz) (c : Cfg) (x : Stp) : PSpec Tryz.prog 6 [.agg (encAt p s c), .agg (encX x)] (fun u => u = .bool true) := by
  refine PSpec.intro tt_ok mx_ok Tryz.func6 rfl (by decide) ?_; (conv => whnf)
  refine boxP rfl ?_
  conv => whnf
  refine boxP rfl ?_
  conv => whnf
  refine Spec.dcall (n := 5) (bigF p) rfl (fun _ => ?_) (fun _ => ?_) <;> (conv => whnf)
  · (refine Spec.of_pure (n := 5) (knownF) rfl ?_; rintro _ rfl; conv => whnf)
    exact ⟨rfl, rfl⟩
  rename_i hp
  have hW := wideF c
  cases hw : wideB c with
  | true =>
    rw [hw] at hW
    (refine Spec.of_pure (n := 5) (hW) rfl ?_; rintro _ rfl; conv => whnf)
    (refine Spec.of_pure (n := 5) (knownF) rfl ?_; rintro _ rfl; conv => whnf)
    exact ⟨rfl, rfl⟩
  | false =>
    rw [hw] at hW
    (refine Spec.of_pure (n := 5) (hW) rfl ?_; rintro _ rfl; conv => whnf)
    have b1 := EnabledF p s c x hp hw
    have b2 := EnabledR p s c x hp hw
    obtain ⟨a, e, h1⟩ := ansE_form p s c (enB p s c x false)
    rw [h1] at b1 b2
    cases a
    all_goals
      (refine Spec.of_pure (n := 5) (b1) rfl ?_; rintro _ rfl; conv => whnf)
      (refine Spec.of_pure (n := 5) (b2) rfl ?_; rintro _ rfl; conv => whnf)
      repeat' (first
          | (refine needI (by first | omega | (dsimp only; omega)) ?_; conv => whnf)
          | (refine arI trivial (by omega) ?_; conv => whnf)
          | (refine cmpT (by omega) ?_; conv => whnf)
          | (refine cmpF (by omega) ?_; conv => whnf)
          | fail)
      (refine Spec.of_pure (n := 5) (knownF) rfl ?_; rintro _ rfl; conv => whnf)
      exact ⟨rfl, rfl⟩
theorem lawForces (p : Pro) (s : Siz) (c : Cfg) (r i : Int) : PSpec Tryz.prog 8 [.agg (encAt p s c), .int .i64 r, .int .i64 i] (fun u => u = .bool true) := by
  refine PSpec.intro tt_ok mx_ok Tryz.func8 rfl (by decide) ?_; (conv => whnf)
  refine boxP rfl ?_
  conv => whnf
  refine Spec.dcall (n := 5) (bigF p) rfl (fun _ => ?_) (fun _ => ?_) <;> (conv => whnf)
  · (refine Spec.of_pure (n := 5) (knownF) rfl ?_; rintro _ rfl; conv => whnf)
    exact ⟨rfl, rfl⟩
  rename_i hp
  have hW := wideF c
  cases hw : wideB c with
  | true =>
    rw [hw] at hW
    (refine Spec.of_pure (n := 5) (hW) rfl ?_; rintro _ rfl; conv => whnf)
    (refine Spec.of_pure (n := 5) (knownF) rfl ?_; rintro _ rfl; conv => whnf)
    exact ⟨rfl, rfl⟩
  | false =>
    rw [hw] at hW
    (refine Spec.of_pure (n := 5) (hW) rfl ?_; rintro _ rfl; conv => whnf)
    have b1 := ForcedF p s c r i hp hw
    have b2 := ForcedR p s c r i hp hw
    obtain ⟨a, e, h1⟩ := ansE_form p s c (fcB p s c r i)
    rw [h1] at b1 b2
    cases a
    all_goals
      (refine Spec.of_pure (n := 5) (b1) rfl ?_; rintro _ rfl; conv => whnf)
      (refine Spec.of_pure (n := 5) (b2) rfl ?_; rintro _ rfl; conv => whnf)
      repeat' (first
          | (refine needI (by first | omega | (dsimp only; omega)) ?_; conv => whnf)
          | (refine arI trivial (by omega) ?_; conv => whnf)
          | (refine cmpT (by omega) ?_; conv => whnf)
          | (refine cmpF (by omega) ?_; conv => whnf)
          | fail)
      (refine Spec.of_pure (n := 5) (knownF) rfl ?_; rintro _ rfl; conv => whnf)
      exact ⟨rfl, rfl⟩
end Go.Proofs.YthdneadmhfnchaaGreatDoor
