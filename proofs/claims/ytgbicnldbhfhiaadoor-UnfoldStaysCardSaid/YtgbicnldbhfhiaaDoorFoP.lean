
/-
  The configuration after a step, by the document's answer; Apply of any arguments.
-/
import Derived.Test.YtgbicnldbhfhiaaDoorFoO
set_option linter.unusedVariables false
set_option linter.unusedSimpArgs false
namespace Go.Proofs.YtgbicnldbhfhiaaDoor
set_option maxRecDepth 100000
set_option maxHeartbeats 16000000

def apM2 (c : Cfg) (r : Rul) (v : Int) (st se fa : List Int) : List (Nat × Blk) := [(6, bxN), (8, bxR r), (9, bxC c v), (1001, rowN c.shape), (1002, rowN st), (1003, rowN se), (1004, rowN fa)]
theorem snd_up {l ms : List Int} {k : Nat} (ha : ∀ j, j < k → (bumpL l (ms.take (j + 1))).getD (ms.getD j 0).toNat 0 ≤ 1048576) (h : (bumpL l (ms.take (k + 1))).getD (ms.getD k 0).toNat 0 ≤ 1048576) : ∀ j, j < k + 1 → (bumpL l (ms.take (j + 1))).getD (ms.getD j 0).toNat 0 ≤ 1048576 := fun j hj => by
  by_cases e : j = k
  · subst e; exact h
  · exact ha j (by omega)
/-! ### Apply -/
theorem ApplyF_e (p : Pro) (s : Siz) (c : Cfg) (x : Stp) (hp : ¬ bigP p) (hw : wideB c = false) (h1 : vconE p s c ≠ 0) : PSpec Tryd.prog 15 [.agg (encP p), .agg (encZ s), .agg (encC c), .agg (encX x)] (fun u => u = .tup [.agg (encC cfg0), .int .i64 (vconE p s c)]) := by
  refine PSpec.sub (R := fun u => u = .tup [.agg cfgN, .int .i64 (vconE p s c)]) ?_ (by rintro _ rfl; exact ⟨_, rfl, auto_, rfl⟩)
  refine PSpec.intro tt_ok mx_ok Tryd.func15 rfl (by decide) ?_; (conv => whnf)
  refine boxP rfl ?_
  conv => whnf
  refine boxP rfl ?_
  conv => whnf
  refine boxP rfl ?_
  conv => whnf
  refine boxP rfl ?_
  conv => whnf
  (refine Spec.of_pure (n := 5) (ValidConfigF p s c hp hw) rfl ?_; rintro _ rfl; conv => whnf)
  refine cmpT h1 ?_
  conv => whnf
  exact ⟨rfl, rfl⟩
theorem ApplyF_s (p : Pro) (s : Siz) (c : Cfg) (x : Stp) (hp : ¬ bigP p) (hw : wideB c = false) (h1 : vconE p s c = 0) (hn : ¬ enB p s c x false) : PSpec Tryd.prog 15 [.agg (encP p), .agg (encZ s), .agg (encC c), .agg (encX x)] (fun u => u = .tup [.agg (encC cfg0), .int .i64 9]) := by
  refine PSpec.sub (R := fun u => u = .tup [.agg cfgN, .int .i64 9]) ?_ (by rintro _ rfl; exact ⟨_, rfl, auto_, rfl⟩)
  have h := Rdy.of hp hw h1
  refine PSpec.intro tt_ok mx_ok Tryd.func15 rfl (by decide) ?_; (conv => whnf)
  refine boxP rfl ?_
  conv => whnf
  refine boxP rfl ?_
  conv => whnf
  refine boxP rfl ?_
  conv => whnf
  refine boxP rfl ?_
  conv => whnf
  (refine Spec.of_pure (n := 5) (ValidConfigF p s c hp hw) rfl ?_; rintro _ rfl; conv => whnf)
  refine cmpF (by omega) ?_
  conv => whnf
  (refine Spec.of_pure (n := 5) (seeF p s c hw) rfl ?_; rintro _ rfl; conv => whnf)
  refine Spec.dcall (n := 5) (enabledV p s c x false h) rfl (fun _ => ?_) (fun _ => ?_) <;> (conv => whnf)
  · rename_i he; exact absurd he hn
  exact ⟨rfl, rfl⟩
theorem ApplyF_k (p : Pro) (s : Siz) (c : Cfg) (x : Stp) (hp : ¬ bigP p) (hw : wideB c = false) (h1 : vconE p s c = 0) (he : enB p s c x false) : Spec Tryd.prog 15 [.agg (encP p), .agg (encZ s), .agg (encC c), .agg (encX x)] (Mem.ofL []) (apR c (p.rules.getD x.rule.toNat rul0) x) := by
  have h := Rdy.of hp hw h1
  refine Spec.intro tt_ok mx_ok [] Tryd.func15 rfl (by decide) ?_
  conv => whnf
  refine boxP rfl ?_
  conv => whnf
  refine boxP rfl ?_
  conv => whnf
  refine boxP rfl ?_
  conv => whnf
  refine boxP rfl ?_
  conv => whnf
  (refine Spec.of_pure (n := 5) (ValidConfigF p s c hp hw) rfl ?_; rintro _ rfl; conv => whnf)
  refine cmpF (by omega) ?_
  conv => whnf
  (refine Spec.of_pure (n := 5) (seeF p s c hw) rfl ?_; rintro _ rfl; conv => whnf)
  refine Spec.dcall (n := 5) (enabledV p s c x false h) rfl (fun _ => ?_) (fun _ => ?_) <;> (conv => whnf)
  case refine_2 => rename_i hn; exact absurd he hn
  have hA := applyV p s c x h he
  generalize p.rules.getD x.rule.toNat rul0 = r at hA ⊢
  by_cases hap : apB c r x
  · refine Spec.news 400 (lmC 1001 1002 1003 1004) (memC (apC c r x)) (.tup [cfgL (apC c r x), .int .i64 0]) hA (auto_) rfl (fun u M' hR => ?_) ?_
    · rcases hR with ⟨_, hT⟩ | ⟨hn, _⟩
      · exact outU u M' hT
      · exact absurd hap hn
    conv => whnf
    exact .inl ⟨hap, rfl, rfl, rfl, rfl, rfl⟩
  · refine Spec.news 400 [] [] (.tup [.agg cfgN, .int .i64 4]) hA (auto_) rfl (fun u M' hR => ?_) ?_
    · rcases hR with ⟨hy, _⟩ | ⟨_, rfl⟩
      · exact absurd hy hap
      · exact ⟨trivial, auto_⟩
    conv => whnf
    exact .inr ⟨hap, rfl⟩
theorem ApplyF_l (p : Pro) (s : Siz) (c : Cfg) (x : Stp) (hp : ¬ bigP p) (hw : wideB c = false) (h1 : vconE p s c = 0) (he : enB p s c x false) (ha : ¬ apB c (p.rules.getD x.rule.toNat rul0) x) : PSpec Tryd.prog 15 [.agg (encP p), .agg (encZ s), .agg (encC c), .agg (encX x)] (fun u => u = .tup [.agg (encC cfg0), .int .i64 4]) := by
  refine PSpec.sub (R := fun u => u = .tup [.agg cfgN, .int .i64 4]) ?_ (by rintro _ rfl; exact ⟨_, rfl, auto_, rfl⟩)
  refine PSpec.of_spec 5 ((ApplyF_k p s c x hp hw h1 he).mono fun u M hR => ?_)
  rcases hR with ⟨hy, _⟩ | ⟨_, rfl⟩
  · exact absurd hy ha
  · exact ⟨rfl, rfl⟩
end Go.Proofs.YtgbicnldbhfhiaaDoor
