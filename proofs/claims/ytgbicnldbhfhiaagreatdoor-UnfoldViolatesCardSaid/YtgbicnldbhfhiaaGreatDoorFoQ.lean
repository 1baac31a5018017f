
/-
  The law UnfoldApplies.
-/
import Derived.Test.YtgbicnldbhfhiaaGreatDoorFoP
set_option linter.unusedVariables false
set_option linter.unusedSimpArgs false
namespace Go.Proofs.YtgbicnldbhfhiaaGreatDoor
set_option maxRecDepth 100000
set_option maxHeartbeats 16000000

theorem apC_wide {c : Cfg} {r : Rul} {x : Stp} (hw : wideB c = false) : wideB (apC c r x) = false := by
  have hc := wide_le hw
  have h1 : (apC c r x).sent.length = c.sent.length := by unfold apC; dsimp only; split <;> simp [bumpL_len]
  have h2 : (apC c r x).faulty.length = c.faulty.length := by unfold apC; dsimp only; split <;> simp [bumpL_len]
  have h3 : (apC c r x).states.length = c.states.length := stN_len c r x
  have h4 : (apC c r x).shape.length = c.shape.length := rfl
  unfold wideB
  simp only [Bool.or_eq_false_iff, decide_eq_false_iff_not]
  omega
def bxK (c : Cfg) : Blk := .box 31 (encC c)
def bxL (c : Cfg) : Blk := .box 31 [.row 1001 c.shape.length 1, .row 1002 c.states.length 1, .int .i64 c.correct, .row 1003 c.sent.length 1, .row 1004 c.faulty.length 1, .int .i64 c.value]
def lwM (c a : Cfg) (st se : List Int) : List (Nat × Blk) := [(5, bxK c), (6, bxL a), (8, bxK a), (1001, rowN a.shape), (1002, rowN st), (1003, rowN se), (1004, rowN a.faulty)]
theorem lawApplies (p : Pro) (s : Siz) (c : Cfg) (x : Stp) : PSpec Tryz.prog 3 [.agg (encAt p s c), .agg (encX x)] (fun u => u = .bool true) := by
  refine PSpec.intro tt_ok mx_ok Tryz.func3 rfl (by decide) ?_; (conv => whnf)
  refine boxP rfl ?_
  conv => whnf
  refine boxP rfl ?_
  conv => whnf
  refine Spec.dcall (n := 5) (bigF p) rfl (fun _ => ?_) (fun _ => ?_) <;> (conv => whnf)
  · (refine Spec.of_pure (n := 5) (knownF) rfl ?_; rintro _ rfl; conv => whnf)
    exact ⟨rfl, rfl⟩
  rename_i hp
  have hW := wideF c
  cases hw : wideB c with
  | true =>
    rw [hw] at hW
    (refine Spec.of_pure (n := 5) (hW) rfl ?_; rintro _ rfl; conv => whnf)
    (refine Spec.of_pure (n := 5) (knownF) rfl ?_; rintro _ rfl; conv => whnf)
    exact ⟨rfl, rfl⟩
  | false =>
    rw [hw] at hW
    have hc := wide_le hw
    (refine Spec.of_pure (n := 5) (hW) rfl ?_; rintro _ rfl; conv => whnf)
    (refine Spec.of_pure (n := 5) (copyR c hw) rfl ?_; rintro _ rfl; conv => whnf)
    have hself : cmpC c c = 0 := cmpC_self c
    have h00 : cmpC cfg0 cfg0 = 0 := cmpC_self cfg0
    by_cases h1 : vconE p s c = 0
    case neg =>
      (refine Spec.of_pure (n := 5) (ApplyF_e p s c x hp hw h1) rfl ?_; rintro _ rfl; conv => whnf)
      (refine Spec.of_pure (n := 5) (ApplyR_e p s c x hp hw h1) rfl ?_; rintro _ rfl; conv => whnf)
      refine cmpT rfl ?_
      conv => whnf
      (refine Spec.of_pure (n := 5) (compareR cfg0 cfg0 rfl) rfl ?_; rintro _ rfl; conv => whnf)
      refine cmpT h00 ?_
      conv => whnf
      refine WPc.loopF tt_ok mx_ok (fun _ : Unit => True) (fun _ => [(11, .int .i64 0)]) (fun _ => [(5, bxK c), (6, bxK cfg0), (8, bxK cfg0)]) (fun _ => 0) () trivial ?_; conv => whnf
      refine ⟨(Sub.id_ 400 rfl auto_ auto_), ?_⟩
      rintro _ _
      conv => whnf
      refine cmpF (by decide) ?_
      conv => whnf
      refine WPc.loopF tt_ok mx_ok (fun _ : Unit => True) (fun _ => [(12, .int .i64 0)]) (fun _ => [(5, bxK c), (6, bxK cfg0), (8, bxK cfg0)]) (fun _ => 0) () trivial ?_; conv => whnf
      refine ⟨(Sub.id_ 400 rfl auto_ auto_), ?_⟩
      rintro _ _
      conv => whnf
      refine cmpF (by decide) ?_
      conv => whnf
      (refine Spec.of_pure (n := 5) (compareR c c hw) rfl ?_; rintro _ rfl; conv => whnf)
      refine cmpT hself ?_
      conv => whnf
      (refine Spec.of_pure (n := 5) (knownF) rfl ?_; rintro _ rfl; conv => whnf)
      exact ⟨rfl, rfl⟩
    by_cases he : enB p s c x false
    case neg =>
      (refine Spec.of_pure (n := 5) (ApplyF_s p s c x hp hw h1 he) rfl ?_; rintro _ rfl; conv => whnf)
      (refine Spec.of_pure (n := 5) (ApplyR_s p s c x hp hw h1 he) rfl ?_; rintro _ rfl; conv => whnf)
      refine cmpT rfl ?_
      conv => whnf
      (refine Spec.of_pure (n := 5) (compareR cfg0 cfg0 rfl) rfl ?_; rintro _ rfl; conv => whnf)
      refine cmpT h00 ?_
      conv => whnf
      refine WPc.loopF tt_ok mx_ok (fun _ : Unit => True) (fun _ => [(11, .int .i64 0)]) (fun _ => [(5, bxK c), (6, bxK cfg0), (8, bxK cfg0)]) (fun _ => 0) () trivial ?_; conv => whnf
      refine ⟨(Sub.id_ 400 rfl auto_ auto_), ?_⟩
      rintro _ _
      conv => whnf
      refine cmpF (by decide) ?_
      conv => whnf
      refine WPc.loopF tt_ok mx_ok (fun _ : Unit => True) (fun _ => [(12, .int .i64 0)]) (fun _ => [(5, bxK c), (6, bxK cfg0), (8, bxK cfg0)]) (fun _ => 0) () trivial ?_; conv => whnf
      refine ⟨(Sub.id_ 400 rfl auto_ auto_), ?_⟩
      rintro _ _
      conv => whnf
      refine cmpF (by decide) ?_
      conv => whnf
      (refine Spec.of_pure (n := 5) (compareR c c hw) rfl ?_; rintro _ rfl; conv => whnf)
      refine cmpT hself ?_
      conv => whnf
      (refine Spec.of_pure (n := 5) (knownF) rfl ?_; rintro _ rfl; conv => whnf)
      exact ⟨rfl, rfl⟩
    by_cases ha : apB c (p.rules.getD x.rule.toNat rul0) x
    case neg =>
      (refine Spec.of_pure (n := 5) (ApplyF_l p s c x hp hw h1 he ha) rfl ?_; rintro _ rfl; conv => whnf)
      (refine Spec.of_pure (n := 5) (ApplyR_l p s c x hp hw h1 he ha) rfl ?_; rintro _ rfl; conv => whnf)
      refine cmpT rfl ?_
      conv => whnf
      (refine Spec.of_pure (n := 5) (compareR cfg0 cfg0 rfl) rfl ?_; rintro _ rfl; conv => whnf)
      refine cmpT h00 ?_
      conv => whnf
      refine WPc.loopF tt_ok mx_ok (fun _ : Unit => True) (fun _ => [(11, .int .i64 0)]) (fun _ => [(5, bxK c), (6, bxK cfg0), (8, bxK cfg0)]) (fun _ => 0) () trivial ?_; conv => whnf
      refine ⟨(Sub.id_ 400 rfl auto_ auto_), ?_⟩
      rintro _ _
      conv => whnf
      refine cmpF (by decide) ?_
      conv => whnf
      refine WPc.loopF tt_ok mx_ok (fun _ : Unit => True) (fun _ => [(12, .int .i64 0)]) (fun _ => [(5, bxK c), (6, bxK cfg0), (8, bxK cfg0)]) (fun _ => 0) () trivial ?_; conv => whnf
      refine ⟨(Sub.id_ 400 rfl auto_ auto_), ?_⟩
      rintro _ _
      conv => whnf
      refine cmpF (by decide) ?_
      conv => whnf
      (refine Spec.of_pure (n := 5) (compareR c c hw) rfl ?_; rintro _ rfl; conv => whnf)
      refine cmpT hself ?_
      conv => whnf
      (refine Spec.of_pure (n := 5) (knownF) rfl ?_; rintro _ rfl; conv => whnf)
      exact ⟨rfl, rfl⟩
    have hA := ApplyF_k p s c x hp hw h1 he
    have hB := ApplyR_k p s c x hp hw h1 he ha
    have hwa : wideB (apC c (p.rules.getD x.rule.toNat rul0) x) = false := apC_wide hw
    generalize p.rules.getD x.rule.toNat rul0 = r at hA hB ha hwa
    have hca := wide_le hwa
    refine Spec.news 400 (lmC 1001 1002 1003 1004) (memC (apC c r x)) (.tup [cfgL (apC c r x), .int .i64 0]) hA (auto_) rfl (fun u M' hR => ?_) ?_
    · rcases hR with ⟨_, hT⟩ | ⟨hn, _⟩
      · exact outU u M' hT
      · exact absurd ha hn
    conv => whnf
    generalize apC c r x = a at hB hwa hca
    (refine Spec.of_pure (n := 5) (hB) rfl ?_; rintro _ rfl; conv => whnf)
    refine cmpT rfl ?_
    conv => whnf
    (refine Spec.borrow (n := 5) (compareR a a hwa) rfl (by rintro _ rfl; rfl) ?_; rintro _ rfl; conv => whnf)
    have hself2 : cmpC a a = 0 := cmpC_self a
    refine cmpT hself2 ?_
    conv => whnf
    refine WPc.loopF tt_ok mx_ok (fun z : Nat × List Int => z.1 ≤ a.states.length ∧ z.2.length = a.states.length) (fun z => [(11, .int .i64 (z.1 : Int))]) (fun z => lwM c a z.2 a.sent) (fun z => a.states.length - z.1) (0, a.states) ⟨Nat.zero_le _, rfl⟩ ?_; conv => whnf
    refine ⟨(Sub.id_ 400 rfl auto_ auto_), ?_⟩
    rintro ⟨k, l⟩ ⟨hk, hl⟩
    dsimp only at hk hl ⊢
    conv => whnf
    refine cmpI (fun g1 => ?_) (fun g1 => ?_) <;> conv => whnf
    · refine needI (by omega) ?_
      conv => whnf
      refine rowSetI _ rfl ?_
      conv => whnf
      repeat' (first
          | (refine needI (by first | omega | (dsimp only; omega)) ?_; conv => whnf)
          | (refine arI trivial (by omega) ?_; conv => whnf)
          | (refine cmpT (by omega) ?_; conv => whnf)
          | (refine cmpF (by omega) ?_; conv => whnf)
          | fail)
      exact ⟨(k + 1, l.set _ _), (Sub.id_ 400 rfl auto_ auto_), ⟨by dsimp only; omega, by simpa using hl⟩, by dsimp only; omega⟩
    refine WPc.loopF tt_ok mx_ok (fun z : Nat × List Int => z.1 ≤ a.sent.length ∧ z.2.length = a.sent.length) (fun z => [(12, .int .i64 (z.1 : Int))]) (fun z => lwM c a l z.2) (fun z => a.sent.length - z.1) (0, a.sent) ⟨Nat.zero_le _, rfl⟩ ?_; conv => whnf
    refine ⟨(Sub.id_ 400 rfl auto_ auto_), ?_⟩
    rintro ⟨k2, l2⟩ ⟨hk2, hl2⟩
    dsimp only at hk2 hl2 ⊢
    conv => whnf
    refine cmpI (fun g1 => ?_) (fun g1 => ?_) <;> conv => whnf
    · refine needI (by omega) ?_
      conv => whnf
      refine rowSetI _ rfl ?_
      conv => whnf
      repeat' (first
          | (refine needI (by first | omega | (dsimp only; omega)) ?_; conv => whnf)
          | (refine arI trivial (by omega) ?_; conv => whnf)
          | (refine cmpT (by omega) ?_; conv => whnf)
          | (refine cmpF (by omega) ?_; conv => whnf)
          | fail)
      exact ⟨(k2 + 1, l2.set _ _), (Sub.id_ 400 rfl auto_ auto_), ⟨by dsimp only; omega, by simpa using hl2⟩, by dsimp only; omega⟩
    (refine Spec.of_pure (n := 5) (compareR c c hw) rfl ?_; rintro _ rfl; conv => whnf)
    refine cmpT hself ?_
    conv => whnf
    (refine Spec.of_pure (n := 5) (knownF) rfl ?_; rintro _ rfl; conv => whnf)
    exact ⟨rfl, rfl⟩
end Go.Proofs.YtgbicnldbhfhiaaGreatDoor
