
/-
  The laws UnfoldCounts and UnfoldSymmetric.
-/
import Derived.Test.YtcbckmnbdcjeeaaGreatDoorFpR
import Derived.Test.YtcbckmnbdcjeeaaGreatDoorFpO
set_option linter.unusedVariables false
set_option linter.unusedSimpArgs false
namespace Go.Proofs.YtcbckmnbdcjeeaaGreatDoor
set_option maxRecDepth 100000
set_option maxHeartbeats 16000000

theorem caE_form (p : Pro) (c : Cfg) (hw : wideB c = false) : ∃ (d : Cfg) (e : Int), caE p c = .tup [.agg (encC d), .int .i64 e] ∧ wideB d = false := by
  refine ⟨_, _, rfl, ?_⟩
  by_cases h : cnE p c = 0
  · rw [if_pos h, canC_wide]; exact hw
  · rw [if_neg h]; rfl
theorem coE_form (p : Pro) (c : Cfg) : ∃ (l : List Int) (e : Int), coE p c = .tup [.sl 0 encI l, .int .i64 e] ∧ (l = [] ∨ l.length = p.states.length) := by
  refine ⟨_, _, rfl, ?_⟩
  by_cases h : cnE p c = 0
  · rw [if_pos h]; exact .inr (cntL_len _ _)
  · rw [if_neg h]; exact .inl rfl
theorem lawCounts (p : Pro) (c : Cfg) : PSpec Tryz.prog 3 [.agg (encP p), .agg (encC c)] (fun u => u = .bool true) := by
  refine PSpec.intro tt_ok mx_ok Tryz.func3 rfl (by decide) ?_; (conv => whnf)
  refine boxP rfl ?_
  conv => whnf
  refine boxP rfl ?_
  conv => whnf
  refine Spec.dcall (n := 5) (bigF p) rfl (fun _ => ?_) (fun _ => ?_) <;> (conv => whnf)
  · (refine Spec.of_pure (n := 5) (knownF) rfl ?_; rintro _ rfl; conv => whnf)
    exact ⟨rfl, rfl⟩
  rename_i hp
  have hW := wideF c
  cases hw : wideB c with
  | true =>
    rw [hw] at hW
    (refine Spec.of_pure (n := 5) (hW) rfl ?_; rintro _ rfl; conv => whnf)
    (refine Spec.of_pure (n := 5) (knownF) rfl ?_; rintro _ rfl; conv => whnf)
    exact ⟨rfl, rfl⟩
  | false =>
    rw [hw] at hW
    (refine Spec.of_pure (n := 5) (hW) rfl ?_; rintro _ rfl; conv => whnf)
    have hle := bigP_le hp
    have b1 := CountsF p c hp hw
    have b2 := CountsR p c hp hw
    have b3 := CanonicalF p c hp hw
    have b4 := CanonicalR p c hp hw
    obtain ⟨l, e, h1, hl⟩ := coE_form p c
    obtain ⟨d, e', h2, hd⟩ := caE_form p c hw
    have hl' : l.length ≤ 4611686018427387904 := by
      rcases hl with rfl | hl
      · exact Nat.zero_le _
      · omega
    rw [h1] at b1 b2
    rw [h2] at b3 b4
    have b5 := refSameInts l l hl'
    rw [decide_eq_true (cmpL_self l)] at b5
    have b6 := compareR d d hd
    rw [cmpC_self] at b6
    (refine Spec.of_pure (n := 5) (b1) rfl ?_; rintro _ rfl; conv => whnf)
    (refine Spec.of_pure (n := 5) (b2) rfl ?_; rintro _ rfl; conv => whnf)
    (refine Spec.of_pure (n := 5) (b3) rfl ?_; rintro _ rfl; conv => whnf)
    (refine Spec.of_pure (n := 5) (b4) rfl ?_; rintro _ rfl; conv => whnf)
    refine cmpT rfl ?_
    conv => whnf
    (refine Spec.of_pure (n := 5) (b5) rfl ?_; rintro _ rfl; conv => whnf)
    refine cmpT rfl ?_
    conv => whnf
    (refine Spec.of_pure (n := 5) (b6) rfl ?_; rintro _ rfl; conv => whnf)
    repeat' (first
        | (refine needI (by first | omega | (dsimp only; omega)) ?_; conv => whnf)
        | (refine arI trivial (by omega) ?_; conv => whnf)
        | (refine cmpT (by omega) ?_; conv => whnf)
        | (refine cmpF (by omega) ?_; conv => whnf)
        | fail)
    (refine Spec.of_pure (n := 5) (knownF) rfl ?_; rintro _ rfl; conv => whnf)
    exact ⟨rfl, rfl⟩
theorem lawSymmetric (p : Pro) (q : Prp) (c : Cfg) : PSpec Tryz.prog 4 [.agg (encP p), .agg (encQ q), .agg (encC c)] (fun u => u = .bool true) := by
  refine PSpec.intro tt_ok mx_ok Tryz.func4 rfl (by decide) ?_; (conv => whnf)
  refine boxP rfl ?_
  conv => whnf
  refine boxP rfl ?_
  conv => whnf
  refine boxP rfl ?_
  conv => whnf
  refine Spec.dcall (n := 5) (bigF p) rfl (fun _ => ?_) (fun _ => ?_) <;> (conv => whnf)
  · (refine Spec.of_pure (n := 5) (knownF) rfl ?_; rintro _ rfl; conv => whnf)
    exact ⟨rfl, rfl⟩
  rename_i hp
  refine Spec.dcall (n := 5) (bigQF q) rfl (fun _ => ?_) (fun _ => ?_) <;> (conv => whnf)
  · (refine Spec.of_pure (n := 5) (knownF) rfl ?_; rintro _ rfl; conv => whnf)
    exact ⟨rfl, rfl⟩
  rename_i hq
  have hW := wideF c
  cases hw : wideB c with
  | true =>
    rw [hw] at hW
    (refine Spec.of_pure (n := 5) (hW) rfl ?_; rintro _ rfl; conv => whnf)
    (refine Spec.of_pure (n := 5) (knownF) rfl ?_; rintro _ rfl; conv => whnf)
    exact ⟨rfl, rfl⟩
  | false =>
    rw [hw] at hW
    (refine Spec.of_pure (n := 5) (hW) rfl ?_; rintro _ rfl; conv => whnf)
    have hle := bigP_le hp
    have b1 := CanonicalF p c hp hw
    by_cases hc : cnE p c = 0
    case neg =>
      have e1 : caE p c = .tup [.agg (encC cfg0), .int .i64 (cnE p c)] := by unfold caE; rw [if_neg hc]
      rw [e1] at b1
      (refine Spec.of_pure (n := 5) (b1) rfl ?_; rintro _ rfl; conv => whnf)
      refine cmpT hc ?_
      conv => whnf
      refine cmpT rfl ?_
      conv => whnf
      (refine Spec.of_pure (n := 5) (knownF) rfl ?_; rintro _ rfl; conv => whnf)
      exact ⟨rfl, rfl⟩
    have hcc := cnE_ok.1 hc
    have hpl := hcc.2
    have hc2 : cnE p (canC p c) = 0 := cnE_ok.2 ⟨hcc.1, canC_plB hpl⟩
    have hw2 : wideB (canC p c) = false := by rw [canC_wide]; exact hw
    have e1 : caE p c = .tup [.agg (encC (canC p c)), .int .i64 0] := by unfold caE; rw [if_pos hc, hc]
    have e2 : caE p (canC p c) = .tup [.agg (encC (canC p c)), .int .i64 0] := by unfold caE; rw [if_pos hc2, hc2, canC_idem p hpl.2.2]
    have e3 : coE p c = .tup [.sl 0 encI (cntL p.states.length (c.states.take c.correct.toNat)), .int .i64 0] := by unfold coE; rw [if_pos hc, hc]
    have e4 : coE p (canC p c) = .tup [.sl 0 encI (cntL p.states.length (c.states.take c.correct.toNat)), .int .i64 0] := by unfold coE; rw [if_pos hc2, hc2, canC_cnt p _ hpl.2.2]
    have b2 := CanonicalF p (canC p c) hp hw2
    have b3 := CountsF p c hp hw
    have b4 := CountsF p (canC p c) hp hw2
    have b5 := BadF p q c hp hq hw
    have b6 := BadF p q (canC p c) hp hq hw2
    have b7 := ReachedF p q c hp hq hw
    have b8 := ReachedF p q (canC p c) hp hq hw2
    rw [bdE_can p q hpl.2.2] at b6
    rw [rcE_can p q hpl.2.1 hpl.2.2] at b8
    rw [e1] at b1
    rw [e2] at b2
    rw [e3] at b3
    rw [e4] at b4
    obtain ⟨a, e, h1⟩ := bdE_form p q c
    obtain ⟨a', e', h2⟩ := rcE_form p q c
    rw [h1] at b5 b6
    rw [h2] at b7 b8
    have hl' : (cntL p.states.length (c.states.take c.correct.toNat)).length ≤ 4611686018427387904 := by rw [cntL_len]; omega
    have b9 := refSameInts (cntL p.states.length (c.states.take c.correct.toNat)) (cntL p.states.length (c.states.take c.correct.toNat)) hl'
    rw [decide_eq_true (cmpL_self _)] at b9
    have b10 := compareC (canC p c) (canC p c) hw2
    rw [cmpC_self] at b10
    generalize cntL p.states.length (c.states.take c.correct.toNat) = L at b3 b4 b9
    generalize canC p c = d at b1 b2 b4 b6 b8 b10
    cases a <;> cases a'
    all_goals
      (refine Spec.of_pure (n := 5) (b1) rfl ?_; rintro _ rfl; conv => whnf)
      refine cmpF (by omega) ?_
      conv => whnf
      (refine Spec.of_pure (n := 5) (b2) rfl ?_; rintro _ rfl; conv => whnf)
      (refine Spec.of_pure (n := 5) (b3) rfl ?_; rintro _ rfl; conv => whnf)
      (refine Spec.of_pure (n := 5) (b4) rfl ?_; rintro _ rfl; conv => whnf)
      (refine Spec.of_pure (n := 5) (b5) rfl ?_; rintro _ rfl; conv => whnf)
      (refine Spec.of_pure (n := 5) (b6) rfl ?_; rintro _ rfl; conv => whnf)
      (refine Spec.of_pure (n := 5) (b7) rfl ?_; rintro _ rfl; conv => whnf)
      (refine Spec.of_pure (n := 5) (b8) rfl ?_; rintro _ rfl; conv => whnf)
      repeat' (first
          | (refine needI (by first | omega | (dsimp only; omega)) ?_; conv => whnf)
          | (refine arI trivial (by omega) ?_; conv => whnf)
          | (refine cmpT (by omega) ?_; conv => whnf)
          | (refine cmpF (by omega) ?_; conv => whnf)
          | fail)
      (refine Spec.of_pure (n := 5) (b10) rfl ?_; rintro _ rfl; conv => whnf)
      repeat' (first
          | (refine needI (by first | omega | (dsimp only; omega)) ?_; conv => whnf)
          | (refine arI trivial (by omega) ?_; conv => whnf)
          | (refine cmpT (by omega) ?_; conv => whnf)
          | (refine cmpF (by omega) ?_; conv => whnf)
          | fail)
      (refine Spec.of_pure (n := 5) (b9) rfl ?_; rintro _ rfl; conv => whnf)
      repeat' (first
          | (refine needI (by first | omega | (dsimp only; omega)) ?_; conv => whnf)
          | (refine arI trivial (by omega) ?_; conv => whnf)
          | (refine cmpT (by omega) ?_; conv => whnf)
          | (refine cmpF (by omega) ?_; conv => whnf)
          | fail)
      (refine Spec.of_pure (n := 5) (knownF) rfl ?_; rintro _ rfl; conv => whnf)
      exact ⟨rfl, rfl⟩
end Go.Proofs.YtcbckmnbdcjeeaaGreatDoor
