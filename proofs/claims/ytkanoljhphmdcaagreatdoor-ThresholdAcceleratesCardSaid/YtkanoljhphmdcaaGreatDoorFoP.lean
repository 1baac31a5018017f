import Derived.Test.YtkanoljhphmdcaaGreatDoorFoPa
import Derived.Test.YtkanoljhphmdcaaGreatDoorFoPb
import Derived.Test.YtkanoljhphmdcaaGreatDoorFoPc
import Derived.Test.YtkanoljhphmdcaaGreatDoorFoPd
import Derived.Test.YtkanoljhphmdcaaGreatDoorM7
set_option linter.unusedVariables false
set_option linter.unusedSimpArgs false
namespace Go.Proofs.YtkanoljhphmdcaaGreatDoor
set_option maxRecDepth 100000
set_option maxHeartbeats 16000000
theorem applyR (p : Pro) (s : Siz) (c : Cfg) (x : Stp) (h : Rdy p s c) (he : enB p s c x false) : PSpec Tryz.prog 81 [.agg (encP p), .agg (encC c), .agg (encX x)] (fun u=>u = .tup [.agg (encC (apC c (p.rules.getD x.rule.toNat rul0) x)), .bool (decide (apB c (p.rules.getD x.rule.toNat rul0) x))]):=by
 have hfit:=(valid_rule h.val (i:=x.rule.toNat) (by have:=he.1; omega)).fit
 unfold fitB at hfit
 have hcase : ((p.rules.getD x.rule.toNat rul0).kind = 1 ∨ (p.rules.getD x.rule.toNat rul0).kind = 4) ∨ (p.rules.getD x.rule.toNat rul0).kind = 2 ∨ (p.rules.getD x.rule.toNat rul0).kind = 5 ∨ (p.rules.getD x.rule.toNat rul0).kind = 3:=by omega
 by_cases hw : (p.rules.getD x.rule.toNat rul0).write = -1 <;> by_cases hcor : x.process < c.correct <;> rcases hcase with k | k | k | k
 ·exact applyR1nt p s c x h he k hw hcor
 ·exact applyR2nt p s c x h he k hw hcor
 ·exact applyR5nt p s c x h he k hw hcor
 ·exact applyR3nt p s c x h he k hw hcor
 ·exact applyR1nf p s c x h he k hw hcor
 ·exact applyR2nf p s c x h he k hw hcor
 ·exact applyR5nf p s c x h he k hw hcor
 ·exact applyR3nf p s c x h he k hw hcor
 ·exact applyR1wt p s c x h he k hw hcor
 ·exact applyR2wt p s c x h he k hw hcor
 ·exact applyR5wt p s c x h he k hw hcor
 ·exact applyR3wt p s c x h he k hw hcor
 ·exact applyR1wf p s c x h he k hw hcor
 ·exact applyR2wf p s c x h he k hw hcor
 ·exact applyR5wf p s c x h he k hw hcor
 ·exact applyR3wf p s c x h he k hw hcor
theorem ApplyF_s (p : Pro) (s : Siz) (c : Cfg) (x : Stp) (hp : ¬ bigP p) (hw : wideB c = false) (h1 : vconE p s c = 0) (hn : ¬ enB p s c x false) : PSpec Tryz.prog 14 [.agg (encP p), .agg (encZ s), .agg (encC c), .agg (encX x)] (fun u=>u = .tup [.agg (encC cfg0), .int .i64 9]):=by
 refine PSpec.sub (R:=fun u=>u = .tup [.agg cfgN, .int .i64 9]) ?_ (by rintro _ rfl; exact ⟨_, rfl, auto_, rfl⟩)
 have h:=Rdy.of hp hw h1
 refine PSpec.intro tt_ok mx_ok Tryz.func14 rfl (by decide) ?_; (conv=>whnf)
 refine boxP rfl ?_
 conv=>whnf
 refine boxP rfl ?_
 conv=>whnf
 refine boxP rfl ?_
 conv=>whnf
 refine boxP rfl ?_
 conv=>whnf
 (refine oP (ValidConfigF p s c hp hw) ?_; conv=>whnf)
 refine fI ?_
 conv=>whnf
 (refine oP (seeF p s c hw) ?_; conv=>whnf)
 refine dC (enabledV p s c x false h) (fun _=>?_) (fun _=>?_) <;> (conv=>whnf)
 ·rename_i he; exact absurd he hn
 exact ⟨rfl, rfl⟩
theorem ApplyF_k (p : Pro) (s : Siz) (c : Cfg) (x : Stp) (hp : ¬ bigP p) (hw : wideB c = false) (h1 : vconE p s c = 0) (he : enB p s c x false) : Spec Tryz.prog 14 [.agg (encP p), .agg (encZ s), .agg (encC c), .agg (encX x)] (Mem.ofL []) (apR c (p.rules.getD x.rule.toNat rul0) x):=by
 have h:=Rdy.of hp hw h1
 refine Spec.intro tt_ok mx_ok [] Tryz.func14 rfl (by decide) ?_
 conv=>whnf
 refine boxP rfl ?_
 conv=>whnf
 refine boxP rfl ?_
 conv=>whnf
 refine boxP rfl ?_
 conv=>whnf
 refine boxP rfl ?_
 conv=>whnf
 (refine oP (ValidConfigF p s c hp hw) ?_; conv=>whnf)
 refine fI ?_
 conv=>whnf
 (refine oP (seeF p s c hw) ?_; conv=>whnf)
 refine dC (enabledV p s c x false h) (fun _=>?_) (fun _=>?_) <;> (conv=>whnf)
 case refine_2=>rename_i hn; exact absurd he hn
 have hA:=applyV p s c x h he
 generalize p.rules.getD x.rule.toNat rul0 = r at hA ⊢
 by_cases hap : apB c r x
 ·refine Spec.news 400 (lmC 1001 1002 1003 1004) (memC (apC c r x)) (.tup [cfgL (apC c r x), .int .i64 0]) hA (auto_) rfl (fun u M' hR=>?_) ?_
  ·rcases hR with ⟨_, hT⟩ | ⟨hn, _⟩
   ·exact outU u M' hT
   ·exact absurd hap hn
  conv=>whnf
  exact .inl ⟨hap, rfl, rfl, rfl, rfl, rfl⟩
 ·refine Spec.news 400 [] [] (.tup [.agg cfgN, .int .i64 4]) hA (auto_) rfl (fun u M' hR=>?_) ?_
  ·rcases hR with ⟨hy, _⟩ | ⟨_, rfl⟩
   ·exact absurd hy hap
   ·exact ⟨trivial, auto_⟩
  conv=>whnf
  exact .inr ⟨hap, rfl⟩
theorem ApplyF_l (p : Pro) (s : Siz) (c : Cfg) (x : Stp) (hp : ¬ bigP p) (hw : wideB c = false) (h1 : vconE p s c = 0) (he : enB p s c x false) (ha : ¬ apB c (p.rules.getD x.rule.toNat rul0) x) : PSpec Tryz.prog 14 [.agg (encP p), .agg (encZ s), .agg (encC c), .agg (encX x)] (fun u=>u = .tup [.agg (encC cfg0), .int .i64 4]):=by
 refine PSpec.sub (R:=fun u=>u = .tup [.agg cfgN, .int .i64 4]) ?_ (by rintro _ rfl; exact ⟨_, rfl, auto_, rfl⟩)
 refine PSpec.of_spec 5 ((ApplyF_k p s c x hp hw h1 he).mono fun u M hR=>?_)
 rcases hR with ⟨hy, _⟩ | ⟨_, rfl⟩
 ·exact absurd hy ha
 ·exact ⟨rfl, rfl⟩
theorem ApplyR_s (p : Pro) (s : Siz) (c : Cfg) (x : Stp) (hp : ¬ bigP p) (hw : wideB c = false) (h1 : vconE p s c = 0) (hn : ¬ enB p s c x false) : PSpec Tryz.prog 43 [.agg (encP p), .agg (encZ s), .agg (encC c), .agg (encX x)] (fun u=>u = .tup [.agg (encC cfg0), .int .i64 9]):=by
 refine PSpec.sub (R:=fun u=>u = .tup [.agg cfgN, .int .i64 9]) ?_ (by rintro _ rfl; exact ⟨_, rfl, auto_, rfl⟩)
 have h:=Rdy.of hp hw h1
 refine PSpec.intro tt_ok mx_ok Tryz.func43 rfl (by decide) ?_; (conv=>whnf)
 refine boxP rfl ?_
 conv=>whnf
 refine boxP rfl ?_
 conv=>whnf
 refine boxP rfl ?_
 conv=>whnf
 refine boxP rfl ?_
 conv=>whnf
 (refine oP (ValidConfigR p s c hp hw) ?_; conv=>whnf)
 refine fI ?_
 conv=>whnf
 refine dC (enabledR p s c x false h) (fun _=>?_) (fun _=>?_) <;> (conv=>whnf)
 ·rename_i he; exact absurd he hn
 exact ⟨rfl, rfl⟩
theorem ApplyR_k (p : Pro) (s : Siz) (c : Cfg) (x : Stp) (hp : ¬ bigP p) (hw : wideB c = false) (h1 : vconE p s c = 0) (he : enB p s c x false) (ha : apB c (p.rules.getD x.rule.toNat rul0) x) : PSpec Tryz.prog 43 [.agg (encP p), .agg (encZ s), .agg (encC c), .agg (encX x)] (fun u=>u = .tup [.agg (encC (apC c (p.rules.getD x.rule.toNat rul0) x)), .int .i64 0]):=by
 have h:=Rdy.of hp hw h1
 refine PSpec.intro tt_ok mx_ok Tryz.func43 rfl (by decide) ?_; (conv=>whnf)
 refine boxP rfl ?_
 conv=>whnf
 refine boxP rfl ?_
 conv=>whnf
 refine boxP rfl ?_
 conv=>whnf
 refine boxP rfl ?_
 conv=>whnf
 (refine oP (ValidConfigR p s c hp hw) ?_; conv=>whnf)
 refine fI ?_
 conv=>whnf
 refine dC (enabledR p s c x false h) (fun _=>?_) (fun _=>?_) <;> (conv=>whnf)
 case refine_2=>rename_i hn; exact absurd he hn
 have hA:=applyR p s c x h he
 rw [decide_eq_true ha] at hA
 (refine oP (hA) ?_; conv=>whnf)
 exact ⟨rfl, rfl⟩
theorem ApplyR_l (p : Pro) (s : Siz) (c : Cfg) (x : Stp) (hp : ¬ bigP p) (hw : wideB c = false) (h1 : vconE p s c = 0) (he : enB p s c x false) (ha : ¬ apB c (p.rules.getD x.rule.toNat rul0) x) : PSpec Tryz.prog 43 [.agg (encP p), .agg (encZ s), .agg (encC c), .agg (encX x)] (fun u=>u = .tup [.agg (encC cfg0), .int .i64 4]):=by
 refine PSpec.sub (R:=fun u=>u = .tup [.agg cfgN, .int .i64 4]) ?_ (by rintro _ rfl; exact ⟨_, rfl, auto_, rfl⟩)
 have h:=Rdy.of hp hw h1
 refine PSpec.intro tt_ok mx_ok Tryz.func43 rfl (by decide) ?_; (conv=>whnf)
 refine boxP rfl ?_
 conv=>whnf
 refine boxP rfl ?_
 conv=>whnf
 refine boxP rfl ?_
 conv=>whnf
 refine boxP rfl ?_
 conv=>whnf
 (refine oP (ValidConfigR p s c hp hw) ?_; conv=>whnf)
 refine fI ?_
 conv=>whnf
 refine dC (enabledR p s c x false h) (fun _=>?_) (fun _=>?_) <;> (conv=>whnf)
 case refine_2=>rename_i hn; exact absurd he hn
 have hA:=applyR p s c x h he
 rw [decide_eq_false ha] at hA
 (refine oP (hA) ?_; conv=>whnf)
 exact ⟨rfl, rfl⟩
end Go.Proofs.YtkanoljhphmdcaaGreatDoor
