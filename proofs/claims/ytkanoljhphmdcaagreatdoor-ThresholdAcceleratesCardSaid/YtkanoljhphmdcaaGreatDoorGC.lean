import Derived.Test.YtkanoljhphmdcaaGreatDoorGA
import Derived.Test.YtkanoljhphmdcaaGreatDoorA1
set_option linter.unusedVariables false
set_option linter.unusedSimpArgs false
namespace Go.Proofs.YtkanoljhphmdcaaGreatDoor
set_option maxRecDepth 100000
set_option maxHeartbeats 16000000
theorem ApplyFQ (p : Pro) (s : Siz) (c : Cfg) (x : Stp) (h : Rdy p s c) (he : enB p s c x false) (ha : apB c (rulX p x) x) : PSpec Tryz.prog 14 [.agg (encP p), .agg (encZ s), .agg (encC c), .agg (encX x)] (fun u=>u = .tup [.agg (encC (apC c (rulX p x) x)), .int .i64 0]):=by
 have h1:=h.vcon
 refine PSpec.intro tt_ok mx_ok Tryz.func14 rfl (by decide) ?_; (conv=>whnf)
 refine boxP rfl ?_
 conv=>whnf
 refine boxP rfl ?_
 conv=>whnf
 refine boxP rfl ?_
 conv=>whnf
 refine boxP rfl ?_
 conv=>whnf
 (refine oP (ValidConfigF p s c h.big h.wide) ?_; conv=>whnf)
 refine fI ?_
 conv=>whnf
 (refine oP (seeF p s c h.wide) ?_; conv=>whnf)
 refine dC (enabledV p s c x false h) (fun _=>?_) (fun _=>?_) <;> (conv=>whnf)
 case refine_2=>rename_i hn; exact absurd he hn
 have hA:=applyV p s c x h he
 unfold rulX at ha ⊢
 generalize p.rules.getD x.rule.toNat rul0 = r at hA ha ⊢
 refine Spec.news 400 (lmC 1001 1002 1003 1004) (memC (apC c r x)) (.tup [cfgL (apC c r x), .int .i64 0]) hA (auto_) rfl (fun u M' hR=>?_) ?_
 ·rcases hR with ⟨_, hT⟩ | ⟨hn, _⟩
  ·exact outU u M' hT
  ·exact absurd ha hn
 conv=>whnf
 exact ⟨rfl, rfl⟩
noncomputable def aplA (p : Pro) (s : Siz) (c : Cfg) (x : Stp) : AV :=
 if vconE p s c ≠ 0 then .tup [.agg (encC cfg0), .int .i64 (vconE p s c)]
 else if ¬ enB p s c x false then .tup [.agg (encC cfg0), .int .i64 9]
 else if ¬ apB c (rulX p x) x then .tup [.agg (encC cfg0), .int .i64 4]
 else .tup [.agg (encC (apC c (rulX p x) x)), .int .i64 0]
theorem ApplyG (p : Pro) (s : Siz) (c : Cfg) (x : Stp) (hp : okP p) (hc : okC c) : PSpec Tryz.prog 14 [.agg (encP p), .agg (encZ s), .agg (encC c), .agg (encX x)] (fun u=>u = aplA p s c x):=by
 have he:=aplA.eq_1 p s c x
 by_cases h1 : vconE p s c ≠ 0
 ·rw [if_pos h1] at he
  rw [he]
  refine PSpec.sub (R:=fun u=>u = .tup [.agg cfgN, .int .i64 (vconE p s c)]) ?_ (by rintro _ rfl; exact ⟨_, rfl, auto_, rfl⟩)
  refine PSpec.intro tt_ok mx_ok Tryz.func14 rfl (by decide) ?_; (conv=>whnf)
  refine boxP rfl ?_
  conv=>whnf
  refine boxP rfl ?_
  conv=>whnf
  refine boxP rfl ?_
  conv=>whnf
  refine boxP rfl ?_
  conv=>whnf
  (refine oP (ValidConfigG p s c hp hc) ?_; conv=>whnf)
  refine cmpT h1 ?_
  conv=>whnf
  exact ⟨rfl, rfl⟩
 rw [if_neg h1] at he
 have h1:=Classical.not_not.1 h1
 have h:=rdy_vc h1
 by_cases h2 : enB p s c x false
 rotate_left
 ·rw [if_pos h2] at he
  rw [he]
  exact ApplyF_s p s c x h.big h.wide h1 h2
 rw [if_neg (fun y=>y h2)] at he
 by_cases h3 : apB c (rulX p x) x
 rotate_left
 ·rw [if_pos h3] at he
  rw [he]
  exact ApplyF_l p s c x h.big h.wide h1 h2 h3
 rw [if_neg (fun y=>y h3)] at he
 rw [he]
 exact ApplyFQ p s c x h h2 h3
def cntN (p : Pro) (s : Siz) (c : Cfg) (m : Int) : Int:=c.sent.getD m.toNat 0 + (if p.fault = 1 ∨ p.fault = 2 then c.faulty.getD m.toNat 0 else if p.fault = 3 then s.f else 0)
def unlB (p : Pro) (s : Siz) (c : Cfg) (i : Nat) : Prop:=evalL ((thrL p.rules).getD i thr0).bound s ≤ ((thrL p.rules).getD i thr0).coef * cntN p s c ((thrL p.rules).getD i thr0).message
instance (p : Pro) (s : Siz) (c : Cfg) (i : Nat) : Decidable (unlB p s c i):=inferInstanceAs (Decidable (_ ≤ _))
theorem ApplyH (p : Pro) (s : Siz) (c : Cfg) (x : Stp) (hp : okP p) (hc : okC c) : PSpec Tryz.prog 43 [.agg (encP p), .agg (encZ s), .agg (encC c), .agg (encX x)] (fun u=>u = aplA p s c x):=by
 have he:=aplA.eq_1 p s c x
 by_cases h1 : vconE p s c ≠ 0
 ·rw [if_pos h1] at he
  rw [he]
  refine PSpec.sub (R:=fun u=>u = .tup [.agg cfgN, .int .i64 (vconE p s c)]) ?_ (by rintro _ rfl; exact ⟨_, rfl, auto_, rfl⟩)
  refine PSpec.intro tt_ok mx_ok Tryz.func43 rfl (by decide) ?_; (conv=>whnf)
  refine boxP rfl ?_
  conv=>whnf
  refine boxP rfl ?_
  conv=>whnf
  refine boxP rfl ?_
  conv=>whnf
  refine boxP rfl ?_
  conv=>whnf
  (refine oP (ValidConfigH p s c hp hc) ?_; conv=>whnf)
  refine cmpT h1 ?_
  conv=>whnf
  exact ⟨rfl, rfl⟩
 rw [if_neg h1] at he
 have h1:=Classical.not_not.1 h1
 have h:=rdy_vc h1
 by_cases h2 : enB p s c x false
 rotate_left
 ·rw [if_pos h2] at he
  rw [he]
  exact ApplyR_s p s c x h.big h.wide h1 h2
 rw [if_neg (fun y=>y h2)] at he
 by_cases h3 : apB c (rulX p x) x
 rotate_left
 ·rw [if_pos h3] at he
  rw [he]
  exact ApplyR_l p s c x h.big h.wide h1 h2 h3
 rw [if_neg (fun y=>y h3)] at he
 rw [he]
 exact ApplyR_k p s c x h.big h.wide h1 h2 h3
end Go.Proofs.YtkanoljhphmdcaaGreatDoor
