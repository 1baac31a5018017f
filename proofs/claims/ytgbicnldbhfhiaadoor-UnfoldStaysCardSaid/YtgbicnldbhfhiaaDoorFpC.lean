
/-
  A step in new memory that is known for good; the law UnfoldReplayCuts.
-/
import Derived.Test.YtgbicnldbhfhiaaDoorA1
set_option linter.unusedVariables false
set_option linter.unusedSimpArgs false
namespace Go.Proofs.YtgbicnldbhfhiaaDoor
set_option maxRecDepth 100000
set_option maxHeartbeats 16000000

theorem ApplyFP (p : Pro) (s : Siz) (c : Cfg) (x : Stp) (h : Rdy p s c) (he : enB p s c x false) (ha : apB c (rulX p x) x) : PSpec Tryd.prog 15 [.agg (encP p), .agg (encZ s), .agg (encC c), .agg (encX x)] (fun u => u = .tup [.agg (encC (apC c (rulX p x) x)), .int .i64 0]) := by
  have h1 := h.vcon
  refine PSpec.intro tt_ok mx_ok Tryd.func15 rfl (by decide) ?_; (conv => whnf)
  refine boxP rfl ?_
  conv => whnf
  refine boxP rfl ?_
  conv => whnf
  refine boxP rfl ?_
  conv => whnf
  refine boxP rfl ?_
  conv => whnf
  (refine Spec.of_pure (n := 5) (ValidConfigF p s c h.big h.wide) rfl ?_; rintro _ rfl; conv => whnf)
  refine cmpF (by omega) ?_
  conv => whnf
  (refine Spec.of_pure (n := 5) (seeF p s c h.wide) rfl ?_; rintro _ rfl; conv => whnf)
  refine Spec.dcall (n := 5) (enabledV p s c x false h) rfl (fun _ => ?_) (fun _ => ?_) <;> (conv => whnf)
  case refine_2 => rename_i hn; exact absurd he hn
  have hA := applyV p s c x h he
  unfold rulX at ha ⊢
  generalize p.rules.getD x.rule.toNat rul0 = r at hA ha ⊢
  refine Spec.news 400 (lmC 1001 1002 1003 1004) (memC (apC c r x)) (.tup [cfgL (apC c r x), .int .i64 0]) hA (auto_) rfl (fun u M' hR => ?_) ?_
  · rcases hR with ⟨_, hT⟩ | ⟨hn, _⟩
    · exact outU u M' hT
    · exact absurd ha hn
  conv => whnf
  exact ⟨rfl, rfl⟩
theorem lawReplayCuts (p : Pro) (s : Siz) (c : Cfg) (l : List Stp) (n : Int) : PSpec Tryd.prog 6 [.agg (encAt p s c), .sl stp0 encX l, .int .i64 n] (fun u => u = .bool true) := by
  refine PSpec.intro tt_ok mx_ok Tryd.func6 rfl (by decide) ?_; (conv => whnf)
  refine boxP rfl ?_
  conv => whnf
  refine Spec.dcall (n := 5) (bigF p) rfl (fun _ => ?_) (fun _ => ?_) <;> (conv => whnf)
  · (refine Spec.of_pure (n := 5) (knownF) rfl ?_; rintro _ rfl; conv => whnf)
    exact ⟨rfl, rfl⟩
  rename_i hp
  have hW := wideF c
  cases hw : wideB c with
  | true =>
    rw [hw] at hW
    (refine Spec.of_pure (n := 5) (hW) rfl ?_; rintro _ rfl; conv => whnf)
    (refine Spec.of_pure (n := 5) (knownF) rfl ?_; rintro _ rfl; conv => whnf)
    exact ⟨rfl, rfl⟩
  | false =>
    rw [hw] at hW
    (refine Spec.of_pure (n := 5) (hW) rfl ?_; rintro _ rfl; conv => whnf)
    refine cmpI (fun h0 => ?_) (fun h0 => ?_) <;> conv => whnf
    · (refine Spec.of_pure (n := 5) (knownF) rfl ?_; rintro _ rfl; conv => whnf)
      exact ⟨rfl, rfl⟩
    have hl : l.length ≤ 300 := by omega
    have hA := ReplayF p s ⟨c, l⟩ hp hw hl
    by_cases hrun : sizeE p s = 0 ∧ VC p s c ∧ runOk p s c l
    case neg =>
      have he : ∃ e, e ≠ 0 ∧ rpT p s ⟨c, l⟩ = rpA [] e := by
        unfold rpT
        by_cases h1 : sizeE p s ≠ 0
        · rw [if_pos h1]; exact ⟨_, h1, rfl⟩
        rw [if_neg h1]
        by_cases h2 : VC p s c
        · rw [if_pos h2]
          exact rp_no fun h3 => hrun ⟨by omega, h2, h3⟩
        · rw [if_neg h2]; exact ⟨10, by decide, rfl⟩
      obtain ⟨e, he0, he⟩ := he
      rw [he] at hA
      (refine Spec.of_pure (n := 5) (hA) rfl ?_; rintro _ rfl; conv => whnf)
      refine cmpT he0 ?_
      conv => whnf
      refine cmpT rfl ?_
      conv => whnf
      (refine Spec.of_pure (n := 5) (knownF) rfl ?_; rintro _ rfl; conv => whnf)
      exact ⟨rfl, rfl⟩
    obtain ⟨h1, h2, h3⟩ := hrun
    have hR : Rdy p s c := Rdy.of hp hw (by
      have : vcE p s c = 0 := by unfold vcE; rw [if_pos h2]
      unfold vconE; rw [if_neg (by omega)]; exact this)
    have hok : ∀ m, runOk p s c m → rpT p s ⟨c, m⟩ = rpA (trs p c m) 0 := fun m hm => by
      unfold rpT
      rw [if_neg (by omega), if_pos h2, rp_ok hm]
      rfl
    rw [hok l h3] at hA
    have hlen := trs_len p c l
    have hwid := trs_wide hR h3
    (refine Spec.of_pure (n := 5) (hA) rfl ?_; rintro _ rfl; conv => whnf)
    refine cmpF (by omega) ?_
    conv => whnf
    refine arW trivial ?_
    conv => whnf
    refine arI trivial (by omega) ?_
    conv => whnf
    refine arU trivial (by omega) ?_
    conv => whnf
    refine needI (by omega) ?_
    have hu : 0 ≤ IntKind.u64.wrap n := by
      have e : IntKind.u64.wrap n = n % 18446744073709551616 := by simp [IntKind.wrap, IntKind.signed, IntKind.bits]
      rw [e]; omega
    have hy0 : 0 ≤ (IntKind.u64.wrap n).tmod ((l.length : Int) + 1) := Int.tmod_nonneg _ hu
    have hy1 : (IntKind.u64.wrap n).tmod ((l.length : Int) + 1) < (l.length : Int) + 1 := Int.tmod_lt_of_pos _ (by omega)
    obtain ⟨k, hk⟩ : ∃ k : Nat, (IntKind.u64.wrap n).tmod ((l.length : Int) + 1) = k := ⟨_, (Int.toNat_of_nonneg hy0).symm⟩
    rw [hk] at hy1 ⊢
    conv => whnf
    refine arI trivial (by omega) ?_
    conv => whnf
    have hB := ReplayF p s ⟨c, l.take k⟩ hp hw (by rw [List.length_take]; omega)
    rw [hok _ (runOk_take k h3), trs_take] at hB
    refine drawI (by decide +kernel) ?_
    conv => whnf
    refine needI (by omega) ?_
    conv => whnf
    rw [Int.toNat_natCast]
    (refine callPI 5 (hB) rfl ⟨_, rfl⟩ ?_; rintro _ rfl; conv => whnf)
    refine cmpF (by omega) ?_
    conv => whnf
    refine arI trivial (by omega) ?_
    conv => whnf
    refine cmpF (by omega) ?_
    conv => whnf
    refine arI trivial (by omega) ?_
    conv => whnf
    refine needI (by omega) ?_
    conv => whnf
    rw [show ((k : Int) + 1).toNat = k + 1 by omega]
    (refine Spec.of_pure (n := 5) (sameConfigsR ((trs p c l).take (k + 1)) (by rw [List.length_take]; omega) (fun d hd => hwid d (List.mem_of_mem_take hd))) rfl ?_; rintro _ rfl; conv => whnf)
    have hstep := trs_step hR h3
    have hrdy := trs_rdy hR h3
    generalize trs p c l = m at hlen hwid hstep hrdy
    refine WPc.loopF tt_ok mx_ok (fun i : Nat => i ≤ l.length) (fun i => [(12, .int .i64 (i : Int))]) (fun _ => []) (fun i => l.length - i) 0 (Nat.zero_le _) ?_; conv => whnf
    refine ⟨(Sub.id_ 400 rfl auto_ auto_), ?_⟩
    rintro i hi
    conv => whnf
    refine cmpI (fun g1 => ?_) (fun g1 => ?_) <;> conv => whnf
    · have hs := hstep i (by omega)
      have hr := hrdy i (by omega)
      refine drawI (by decide +kernel) ?_
      conv => whnf
      refine needI (by omega) ?_
      conv => whnf
      rw [Int.toNat_natCast]
      refine needI (by omega) ?_
      conv => whnf
      generalize m.getD i cfg0 = d at hs hr
      generalize l.getD i stp0 = x at hs
      have hA := ApplyFP p s d x hr hs.1 hs.2.1
      rw [← hs.2.2] at hA
      (refine callPI 5 (hA) rfl ⟨_, rfl⟩ ?_; rintro _ rfl; conv => whnf)
      have hwn : wideB (m.getD (i + 1) cfg0) = false := (hrdy (i + 1) (by omega)).wide
      refine drawI (by decide +kernel) ?_
      conv => whnf
      refine cmpF (by omega) ?_
      conv => whnf
      refine arI trivial (by omega) ?_
      conv => whnf
      refine needI (by omega) ?_
      conv => whnf
      rw [show ((i : Int) + 1).toNat = i + 1 by omega]
      generalize m.getD (i + 1) cfg0 = e at hwn
      have hse : cmpC e e = 0 := cmpC_self e
      (refine callPI 5 (compareC e e hwn) rfl ⟨_, rfl⟩ ?_; rintro _ rfl; conv => whnf)
      refine cmpF (by omega) ?_
      conv => whnf
      repeat' (first
          | (refine needI (by first | omega | (dsimp only; omega)) ?_; conv => whnf)
          | (refine arI trivial (by omega) ?_; conv => whnf)
          | (refine cmpT (by omega) ?_; conv => whnf)
          | (refine cmpF (by omega) ?_; conv => whnf)
          | fail)
      exact ⟨i + 1, (Sub.id_ 400 rfl auto_ auto_), by omega, by dsimp only; omega⟩
    · (refine Spec.of_pure (n := 5) (knownF) rfl ?_; rintro _ rfl; conv => whnf)
      exact ⟨rfl, rfl⟩
end Go.Proofs.YtgbicnldbhfhiaaDoor
