
/-
  The configurations of a run, by the program and by the document's answer; the law UnfoldReplays.
-/
import Derived.Test.YtgbicnldbhfhiaaGreatDoorFoR
set_option linter.unusedVariables false
set_option linter.unusedSimpArgs false
namespace Go.Proofs.YtgbicnldbhfhiaaGreatDoor
set_option maxRecDepth 100000
set_option maxHeartbeats 16000000

/-- an answer that is a run, told with nil or with a list -/
def rpU (v : AV) : AV → Prop := fun u => u = v ∨ ∃ e, u = .tup [.nilsl, .int .i64 e] ∧ v = rpA [] e
theorem PSpec.rp {f : FuncId} {args : List AV} {v : AV} (hf : ∃ l e, v = rpA l e) (h : PSpec Tryz.prog f args (rpU v)) : PSpec Tryz.prog f args (fun u => u = v) := by
  obtain ⟨l, e, rfl⟩ := hf
  refine PSpec.sub h ?_
  rintro u (rfl | ⟨e', rfl, h2⟩)
  · exact ⟨_, rfl, auto_, rfl⟩
  · rw [h2]; exact ⟨_, rfl, auto_, rfl⟩
theorem rp_ex {p : Pro} {s : Siz} {c : Cfg} (h : wideB c = false) (l : List Stp) : ∃ m e, rp p s [c] c l = rpA m e := by
  obtain ⟨m, e, h1, _⟩ := rp_form p s l [c] c (by simpa using h) h
  exact ⟨m, e, h1⟩
theorem replayF (p : Pro) (s : Siz) (c : Cfg) (l : List Stp) (h : Rdy p s c) (hl : l.length ≤ 300) : PSpec Tryz.prog 46 [.agg (encP p), .agg (encZ s), .agg (encC c), .sl stp0 encX l] (fun u => u = rp p s [c] c l) := by
  refine PSpec.rp (rp_ex h.wide l) ?_
  refine PSpec.intro tt_ok mx_ok Tryz.func46 rfl (by decide) ?_; (conv => whnf)
  refine boxP rfl ?_
  conv => whnf
  refine boxP rfl ?_
  conv => whnf
  refine boxP rfl ?_
  conv => whnf
  refine Spec.news 400 (lmC 5 9 13 17) (memC c) (cfgL c) (cloneL c h.wide) (auto_) rfl outC ?_
  conv => whnf
  refine bldI cfg0 encC [c] rfl ?_
  conv => whnf
  refine WPc.loopF tt_ok mx_ok (fun z : Nat × List Cfg × Cfg => z.1 ≤ l.length ∧ z.2.1.length = z.1 + 1 ∧ z.2.1.getD z.1 cfg0 = z.2.2 ∧ Rdy p s z.2.2 ∧ rp p s [c] c l = rp p s z.2.1 z.2.2 (l.drop z.1)) (fun z => [(21, .int .i64 (z.1 : Int)), (17, .top), (18, .top), (10, .row 1000 z.2.1.length 6)]) (fun z => [(1000, rowC z.2.1)]) (fun z => l.length - z.1) (0, [c], c) ⟨Nat.zero_le _, rfl, rfl, h, rfl⟩ ?_; conv => whnf
  refine ⟨Sub.by_ [(1000, .old 18)] _ 400 rfl (auto_) (auto_), ?_⟩
  rintro ⟨k, acc, cur⟩ ⟨h1, h2, h3, h4, h5⟩
  dsimp only at h1 h2 h3 h4 h5 ⊢
  conv => whnf
  refine cmpI (fun g1 => ?_) (fun g1 => ?_) <;> conv => whnf
  · rw [dropX (by omega), rp] at h5
    refine needI (by omega) ?_
    rw [Int.toNat_natCast]
    generalize l.getD k stp0 = x at h5
    conv => whnf
    refine drawI (by decide +kernel) ?_
    conv => whnf
    refine arI trivial (by omega) ?_
    conv => whnf
    refine needI (by omega) ?_
    rw [show ((acc.length : Int) - 1).toNat = k by omega]
    conv => whnf
    rw [h3]
    (refine callPI 5 (seeF p s cur h4.wide) rfl ⟨_, rfl⟩ ?_; rintro _ rfl; conv => whnf)
    refine Spec.dcall (n := 5) (enabledV p s cur x false h4) rfl (fun _ => ?_) (fun _ => ?_) <;> (conv => whnf)
    case refine_2 =>
      rename_i hn
      rw [if_neg hn] at h5
      exact ⟨.inr ⟨9, rfl, h5⟩, rfl⟩
    rename_i he
    rw [if_pos he] at h5
    have hA := applyV p s cur x h4 he
    have hN := fun ha => h4.next he ha
    unfold rulX at h5
    generalize p.rules.getD x.rule.toNat rul0 = r at hA h5 hN
    by_cases ha : apB cur r x
    · rw [if_pos ha] at h5
      refine Spec.news 400 (lmC 1001 1002 1003 1004) (memC (apC cur r x)) (.tup [cfgL (apC cur r x), .int .i64 0]) hA (auto_) rfl (fun u M' hR => ?_) ?_
      · rcases hR with ⟨_, hT⟩ | ⟨hn, _⟩
        · exact outU u M' hT
        · exact absurd ha hn
      conv => whnf
      repeat' (first
          | (refine needI (by first | omega | (dsimp only; omega)) ?_; conv => whnf)
          | (refine arI trivial (by omega) ?_; conv => whnf)
          | (refine cmpT (by omega) ?_; conv => whnf)
          | (refine cmpF (by omega) ?_; conv => whnf)
          | fail)
      refine bldI cfg0 encC [apC cur r x] rfl ?_
      conv => whnf
      refine appI [apC cur r x] rfl (by simp only [List.length_cons, List.length_nil]; omega) ?_
      conv => whnf
      repeat' (first
          | (refine needI (by first | omega | (dsimp only; omega)) ?_; conv => whnf)
          | (refine arI trivial (by omega) ?_; conv => whnf)
          | (refine cmpT (by omega) ?_; conv => whnf)
          | (refine cmpF (by omega) ?_; conv => whnf)
          | fail)
      refine ⟨(k + 1, acc ++ [apC cur r x], apC cur r x), Sub.by_ [(1000, .old 50)] _ 400 rfl (auto_) (auto_), ⟨by dsimp only; omega, by simp; omega, by dsimp only; rw [← h2]; exact last_snoc _ _, hN ha, h5⟩, by dsimp only; omega⟩
    · rw [if_neg ha] at h5
      refine Spec.news 400 [] [] (.tup [.agg cfgN, .int .i64 4]) hA (auto_) rfl (fun u M' hR => ?_) ?_
      · rcases hR with ⟨hy, _⟩ | ⟨_, rfl⟩
        · exact absurd hy ha
        · exact ⟨trivial, auto_⟩
      conv => whnf
      repeat' (first
          | (refine needI (by first | omega | (dsimp only; omega)) ?_; conv => whnf)
          | (refine arI trivial (by omega) ?_; conv => whnf)
          | (refine cmpT (by omega) ?_; conv => whnf)
          | (refine cmpF (by omega) ?_; conv => whnf)
          | fail)
      exact ⟨.inr ⟨4, rfl, h5⟩, rfl⟩
  · rw [List.drop_of_length_le (by omega)] at h5
    exact ⟨.inl h5.symm, rfl⟩
theorem replayR (p : Pro) (s : Siz) (c : Cfg) (l : List Stp) (h : Rdy p s c) (hl : l.length ≤ 300) : PSpec Tryz.prog 49 [.agg (encP p), .agg (encZ s), .agg (encC c), .sl stp0 encX l] (fun u => u = rp p s [c] c l) := by
  refine PSpec.rp (rp_ex h.wide l) ?_
  refine PSpec.intro tt_ok mx_ok Tryz.func49 rfl (by decide) ?_; (conv => whnf)
  refine boxP rfl ?_
  conv => whnf
  refine boxP rfl ?_
  conv => whnf
  refine boxP rfl ?_
  conv => whnf
  (refine Spec.of_pure (n := 5) (copyR c h.wide) rfl ?_; rintro _ rfl; conv => whnf)
  refine bldI cfg0 encC [c] rfl ?_
  conv => whnf
  refine WPc.loopF tt_ok mx_ok (fun z : Nat × List Cfg × Cfg => z.1 ≤ l.length ∧ z.2.1.length = z.1 + 1 ∧ z.2.1.getD z.1 cfg0 = z.2.2 ∧ Rdy p s z.2.2 ∧ rp p s [c] c l = rp p s z.2.1 z.2.2 (l.drop z.1)) (fun z => [(11, .int .i64 (z.1 : Int)), (16, .top), (10, .row 1000 z.2.1.length 6)]) (fun z => [(1000, rowC z.2.1)]) (fun z => l.length - z.1) (0, [c], c) ⟨Nat.zero_le _, rfl, rfl, h, rfl⟩ ?_; conv => whnf
  refine ⟨Sub.by_ [(1000, .old 16)] _ 400 rfl (auto_) (auto_), ?_⟩
  rintro ⟨k, acc, cur⟩ ⟨h1, h2, h3, h4, h5⟩
  dsimp only at h1 h2 h3 h4 h5 ⊢
  conv => whnf
  refine cmpI (fun g1 => ?_) (fun g1 => ?_) <;> conv => whnf
  · rw [dropX (by omega), rp] at h5
    refine drawI (by decide +kernel) ?_
    conv => whnf
    refine arI trivial (by omega) ?_
    conv => whnf
    refine needI (by omega) ?_
    rw [show ((acc.length : Int) - 1).toNat = k by omega]
    conv => whnf
    rw [h3]
    refine needI (by omega) ?_
    rw [Int.toNat_natCast]
    generalize l.getD k stp0 = x at h5
    conv => whnf
    by_cases he : enB p s cur x false
    case neg =>
      rw [if_neg he] at h5
      (refine callPI 5 (ApplyR_s p s cur x h4.big h4.wide h4.vcon he) rfl ⟨_, rfl⟩ ?_; rintro _ rfl; conv => whnf)
      repeat' (first
          | (refine needI (by first | omega | (dsimp only; omega)) ?_; conv => whnf)
          | (refine arI trivial (by omega) ?_; conv => whnf)
          | (refine cmpT (by omega) ?_; conv => whnf)
          | (refine cmpF (by omega) ?_; conv => whnf)
          | fail)
      exact ⟨.inr ⟨9, rfl, h5⟩, rfl⟩
    rw [if_pos he] at h5
    have hA := ApplyR_k p s cur x h4.big h4.wide h4.vcon he
    have hA2 := ApplyR_l p s cur x h4.big h4.wide h4.vcon he
    have hN := fun ha => h4.next he ha
    unfold rulX at h5
    generalize p.rules.getD x.rule.toNat rul0 = r at hA hA2 h5 hN
    by_cases ha : apB cur r x
    · rw [if_pos ha] at h5
      (refine callPI 5 (hA ha) rfl ⟨_, rfl⟩ ?_; rintro _ rfl; conv => whnf)
      repeat' (first
          | (refine needI (by first | omega | (dsimp only; omega)) ?_; conv => whnf)
          | (refine arI trivial (by omega) ?_; conv => whnf)
          | (refine cmpT (by omega) ?_; conv => whnf)
          | (refine cmpF (by omega) ?_; conv => whnf)
          | fail)
      refine bldI cfg0 encC [apC cur r x] rfl ?_
      conv => whnf
      refine appI [apC cur r x] rfl (by simp only [List.length_cons, List.length_nil]; omega) ?_
      conv => whnf
      repeat' (first
          | (refine needI (by first | omega | (dsimp only; omega)) ?_; conv => whnf)
          | (refine arI trivial (by omega) ?_; conv => whnf)
          | (refine cmpT (by omega) ?_; conv => whnf)
          | (refine cmpF (by omega) ?_; conv => whnf)
          | fail)
      refine ⟨(k + 1, acc ++ [apC cur r x], apC cur r x), Sub.by_ [(1000, .old 45)] _ 400 rfl (auto_) (auto_), ⟨by dsimp only; omega, by simp; omega, by dsimp only; rw [← h2]; exact last_snoc _ _, hN ha, h5⟩, by dsimp only; omega⟩
    · rw [if_neg ha] at h5
      (refine callPI 5 (hA2 ha) rfl ⟨_, rfl⟩ ?_; rintro _ rfl; conv => whnf)
      repeat' (first
          | (refine needI (by first | omega | (dsimp only; omega)) ?_; conv => whnf)
          | (refine arI trivial (by omega) ?_; conv => whnf)
          | (refine cmpT (by omega) ?_; conv => whnf)
          | (refine cmpF (by omega) ?_; conv => whnf)
          | fail)
      exact ⟨.inr ⟨4, rfl, h5⟩, rfl⟩
  · rw [List.drop_of_length_le (by omega)] at h5
    exact ⟨.inl h5.symm, rfl⟩
structure Rn where
  start : Cfg
  steps : List Stp
def encRn (r : Rn) : List AV := encC r.start ++ [.sl stp0 encX r.steps]
noncomputable def rpT (p : Pro) (s : Siz) (r : Rn) : AV := if sizeE p s ≠ 0 then rpA [] (sizeE p s) else if VC p s r.start then rp p s [r.start] r.start r.steps else rpA [] 10
theorem rpT_form (p : Pro) (s : Siz) (r : Rn) (hw : wideB r.start = false) : ∃ l e, rpT p s r = rpA l e ∧ l.length ≤ 1 + r.steps.length ∧ ∀ d ∈ l, wideB d = false := by
  unfold rpT
  split
  · exact ⟨[], _, rfl, by simp, by simp⟩
  · split
    · obtain ⟨l, e, h1, h2, h3⟩ := rp_form p s r.steps [r.start] r.start (by simpa using hw) hw
      exact ⟨l, e, h1, h2, h3⟩
    · exact ⟨[], _, rfl, by simp, by simp⟩
theorem ReplayF (p : Pro) (s : Siz) (r : Rn) (hp : ¬ bigP p) (hw : wideB r.start = false) (hl : r.steps.length ≤ 300) : PSpec Tryz.prog 17 [.agg (encP p), .agg (encZ s), .agg (encRn r)] (fun u => u = rpT p s r) := by
  have he := rpT.eq_1 p s r
  obtain ⟨m, e, hm, _⟩ := rpT_form p s r hw
  refine PSpec.rp ⟨m, e, hm⟩ ?_
  refine PSpec.intro tt_ok mx_ok Tryz.func17 rfl (by decide) ?_; (conv => whnf)
  refine boxP rfl ?_
  conv => whnf
  refine boxP rfl ?_
  conv => whnf
  refine boxP rfl ?_
  conv => whnf
  (refine Spec.of_pure (n := 5) (checkSizeF p s hp) rfl ?_; rintro _ rfl; conv => whnf)
  refine cmpI (fun h1 => ?_) (fun h1 => ?_) <;> conv => whnf
  · rw [if_pos h1] at he; exact ⟨.inr ⟨_, rfl, he⟩, rfl⟩
  rw [if_neg h1] at he
  have h2 := sizeE_ok (p := p) (s := s) (by omega)
  (refine Spec.of_pure (n := 5) (validConfigF p s r.start hp hw (by omega)) rfl ?_; rintro _ rfl; conv => whnf)
  by_cases h3 : VC p s r.start
  · rw [if_pos h3] at he
    have hv : vcE p s r.start = 0 := by unfold vcE; rw [if_pos h3]
    have h : Rdy p s r.start := Rdy.of hp hw (by unfold vconE; rw [if_neg h1]; exact hv)
    refine cmpF (by omega) ?_
    conv => whnf
    (refine Spec.of_pure (n := 5) (replayF p s r.start r.steps h hl) rfl ?_; rintro _ rfl; conv => whnf)
    obtain ⟨m', e', hm'⟩ := rp_ex (p := p) (s := s) hw r.steps
    rw [hm'] at he ⊢
    rw [he]
    conv => whnf
    exact ⟨.inl rfl, rfl⟩
  · rw [if_neg h3] at he
    have hv : vcE p s r.start = 1 := by unfold vcE; rw [if_neg h3]
    refine cmpT (by omega) ?_
    conv => whnf
    exact ⟨.inr ⟨_, rfl, he⟩, rfl⟩
theorem ReplayR (p : Pro) (s : Siz) (r : Rn) (hp : ¬ bigP p) (hw : wideB r.start = false) (hl : r.steps.length ≤ 300) : PSpec Tryz.prog 18 [.agg (encP p), .agg (encZ s), .agg (encRn r)] (fun u => u = rpT p s r) := by
  have he := rpT.eq_1 p s r
  obtain ⟨m, e, hm, _⟩ := rpT_form p s r hw
  refine PSpec.rp ⟨m, e, hm⟩ ?_
  refine PSpec.intro tt_ok mx_ok Tryz.func18 rfl (by decide) ?_; (conv => whnf)
  refine boxP rfl ?_
  conv => whnf
  refine boxP rfl ?_
  conv => whnf
  refine boxP rfl ?_
  conv => whnf
  (refine Spec.of_pure (n := 5) (sizedR p s hp) rfl ?_; rintro _ rfl; conv => whnf)
  refine cmpI (fun h1 => ?_) (fun h1 => ?_) <;> conv => whnf
  · rw [if_pos h1] at he; exact ⟨.inr ⟨_, rfl, he⟩, rfl⟩
  rw [if_neg h1] at he
  have h2 := sizeE_ok (p := p) (s := s) (by omega)
  refine Spec.dcall (n := 5) (validConfigR p s r.start hp hw (by omega)) rfl (fun _ => ?_) (fun _ => ?_) <;> (conv => whnf)
  · rename_i h3
    rw [if_pos h3] at he
    have hv : vcE p s r.start = 0 := by unfold vcE; rw [if_pos h3]
    have h : Rdy p s r.start := Rdy.of hp hw (by unfold vconE; rw [if_neg h1]; exact hv)
    (refine Spec.of_pure (n := 5) (replayR p s r.start r.steps h hl) rfl ?_; rintro _ rfl; conv => whnf)
    obtain ⟨m', e', hm'⟩ := rp_ex (p := p) (s := s) hw r.steps
    rw [hm'] at he ⊢
    rw [he]
    conv => whnf
    exact ⟨.inl rfl, rfl⟩
  · rename_i h3
    rw [if_neg h3] at he
    exact ⟨.inr ⟨_, rfl, he⟩, rfl⟩
theorem sameConfigsR (l : List Cfg) (hl : l.length ≤ 1000) (hw : ∀ d ∈ l, wideB d = false) : PSpec Tryz.prog 19 [.sl cfg0 encC l, .sl cfg0 encC l] (fun u => u = .bool true) := by
  refine PSpec.intro tt_ok mx_ok Tryz.func19 rfl (by decide) ?_; (conv => whnf)
  refine cmpF (by omega) ?_
  conv => whnf
  refine WPc.loopF tt_ok mx_ok (fun k : Nat => k ≤ l.length) (fun k => [(5, .int .i64 (k : Int))]) (fun _ => []) (fun k => l.length - k) 0 (Nat.zero_le _) ?_; conv => whnf
  refine ⟨(Sub.id_ 400 rfl auto_ auto_), ?_⟩
  rintro k hk
  conv => whnf
  refine cmpI (fun g1 => ?_) (fun g1 => ?_) <;> conv => whnf
  · refine drawI (by decide +kernel) ?_
    conv => whnf
    refine needI (by omega) ?_
    rw [Int.toNat_natCast]
    conv => whnf
    refine needI (by omega) ?_
    rw [Int.toNat_natCast]
    conv => whnf
    have hd : wideB (l.getD k cfg0) = false := hw _ (by
      rw [List.getD_eq_getElem?_getD, List.getElem?_eq_getElem (by omega)]
      exact List.getElem_mem _)
    generalize l.getD k cfg0 = d at hd
    have hs := cmpC_self d
    (refine callPI 5 (compareR d d hd) rfl ⟨_, rfl⟩ ?_; rintro _ rfl; conv => whnf)
    refine cmpF (by omega) ?_
    conv => whnf
    repeat' (first
        | (refine needI (by first | omega | (dsimp only; omega)) ?_; conv => whnf)
        | (refine arI trivial (by omega) ?_; conv => whnf)
        | (refine cmpT (by omega) ?_; conv => whnf)
        | (refine cmpF (by omega) ?_; conv => whnf)
        | fail)
    exact ⟨k + 1, (Sub.id_ 400 rfl auto_ auto_), by omega, by dsimp only; omega⟩
  · exact ⟨rfl, rfl⟩
theorem lawReplays (p : Pro) (s : Siz) (r : Rn) : PSpec Tryz.prog 4 [.agg (encP p), .agg (encZ s), .agg (encRn r)] (fun u => u = .bool true) := by
  have hL : PSpec Tryz.prog 16 [.agg (encRn r)] (fun u => u = .bool (decide (wideB r.start = true ∨ 300 < r.steps.length))) := by
    refine PSpec.intro tt_ok mx_ok Tryz.func16 rfl (by decide) ?_; (conv => whnf)
    refine boxP rfl ?_
    conv => whnf
    have hW := wideF r.start
    cases hw : wideB r.start with
    | true =>
      rw [hw] at hW
      (refine Spec.of_pure (n := 5) (hW) rfl ?_; rintro _ rfl; conv => whnf)
      exact ⟨dec_t (.inl rfl), rfl⟩
    | false =>
      rw [hw] at hW
      (refine Spec.of_pure (n := 5) (hW) rfl ?_; rintro _ rfl; conv => whnf)
      refine cmpI (fun h1 => ?_) (fun h1 => ?_) <;> conv => whnf
      · exact ⟨dec_t (.inr (by omega)), rfl⟩
      · exact ⟨dec_f (fun h => h.elim (fun e => by cases e) (by omega)), rfl⟩
  refine PSpec.intro tt_ok mx_ok Tryz.func4 rfl (by decide) ?_; (conv => whnf)
  refine boxP rfl ?_
  conv => whnf
  refine boxP rfl ?_
  conv => whnf
  refine boxP rfl ?_
  conv => whnf
  refine Spec.dcall (n := 5) (bigF p) rfl (fun _ => ?_) (fun _ => ?_) <;> (conv => whnf)
  · (refine Spec.of_pure (n := 5) (knownF) rfl ?_; rintro _ rfl; conv => whnf)
    exact ⟨rfl, rfl⟩
  rename_i hp
  refine Spec.dcall (n := 5) (hL) rfl (fun _ => ?_) (fun _ => ?_) <;> (conv => whnf)
  · (refine Spec.of_pure (n := 5) (knownF) rfl ?_; rintro _ rfl; conv => whnf)
    exact ⟨rfl, rfl⟩
  rename_i hn
  have hw : wideB r.start = false := by
    cases hw : wideB r.start with
    | true => exact absurd (.inl hw) hn
    | false => rfl
  have hl : r.steps.length ≤ 300 := by
    by_cases h : 300 < r.steps.length
    · exact absurd (.inr h) hn
    · omega
  have b1 := ReplayF p s r hp hw hl
  have b2 := ReplayR p s r hp hw hl
  obtain ⟨m, e, hm, hm2, hm3⟩ := rpT_form p s r hw
  rw [hm] at b1 b2
  (refine Spec.of_pure (n := 5) (b1) rfl ?_; rintro _ rfl; conv => whnf)
  (refine Spec.of_pure (n := 5) (b2) rfl ?_; rintro _ rfl; conv => whnf)
  refine cmpT rfl ?_
  conv => whnf
  (refine Spec.of_pure (n := 5) (sameConfigsR m (by omega) hm3) rfl ?_; rintro _ rfl; conv => whnf)
  (refine Spec.of_pure (n := 5) (knownF) rfl ?_; rintro _ rfl; conv => whnf)
  exact ⟨rfl, rfl⟩
end Go.Proofs.YtgbicnldbhfhiaaGreatDoor
