import Derived.Test.YtnjggjhkfncnlaaGreatDoorFS
import Derived.Test.YtnjggjhkfncnlaaGreatDoorGA
import Derived.Test.YtnjggjhkfncnlaaGreatDoorHA
set_option linter.unusedVariables false
set_option linter.unusedSimpArgs false
namespace Go.Proofs.YtnjggjhkfncnlaaGreatDoor
set_option maxRecDepth 100000
set_option maxHeartbeats 16000000
def potL : List Int → Int
 |[]=>0
 |a :: l=>a + potL l
theorem potL_set : ∀ {l : List Int} {k : Nat} (d : Int), k < l.length → potL (l.set k d) = potL l + d - l.getD k 0
 |[], k, d, h=>by simp at h
 |a :: l, 0, d, _=>by simp [potL]; omega
 |a :: l, k + 1, d, h=>by
  have:=potL_set (l:=l) (k:=k) d (by simpa using h)
  rw [List.set_cons_succ, potL, potL, this]
  show _ = _ - l.getD k 0
  omega
theorem potL_b {n : Int} : ∀ {l : List Int}, (∀ x ∈ l, 0 ≤ x ∧ x < n) → 0 ≤ potL l ∧ potL l ≤ n * l.length
 |[], _=>by simp [potL]
 |a :: l, h=>by
  have b:=potL_b (l:=l) fun x hx=>h x (List.mem_cons_of_mem _ hx)
  have c:=h a List.mem_cons_self
  rw [potL, List.length_cons, Int.natCast_add, Int.mul_add]
  omega
theorem pot_up {p : Pro} {s : Siz} {c : Cfg} {x : Stp} (ht : thrB p) (he : enB p s c x false) : potL c.states < potL (apC c (rulX p x) x).states:=by
 obtain ⟨⟨⟨r1, r2⟩, ⟨q1, q2⟩⟩, hs, _, _⟩:=he
 have hk:=ht.2.2 x.rule.toNat (by omega)
 rw [ap_states (show (rulX p x).kind = 1 from hk.1) ⟨q1, q2⟩, potL_set _ (by omega), hs]
 have:=hk.2.1
 unfold rulX
 omega
theorem pot_max {p : Pro} {s : Siz} {c : Cfg} (h : Rdy p s c) : 0 ≤ potL c.states ∧ potL c.states ≤ 48:=by
 have hl:=h.vc.len
 have hsz:=h.sz
 have hm : modN p s ≤ 8:=by unfold modN; split <;> omega
 have hw:=(vld_of h.val).len
 have:=potL_b (l:=c.states) (n:=p.states.length) fun x hx=>by
  obtain ⟨i, hi, e⟩:=List.getElem_of_mem hx
  have:=h.vc.sta i hi
  rwa [getD_elem 0 hi, e] at this
 have h2 : (p.states.length : Int) * c.states.length ≤ 6 * 8:=Int.mul_le_mul (by omega) (by omega) (by omega) (by omega)
 omega
theorem K1_of {p : Pro} {s : Siz} {c : Cfg} {x : Stp} {f : Bool} (ht : thrB p) (hv : validE p = 0) (he : enB p s c x f) : K1 p x:=thr_K1 ht hv (ri:=x.rule) he.1.1 0
theorem rpT_raw (p : Pro) (s : Siz) (r : Rn) : ∃ l e, rpT p s r = rpA l e:=by
 unfold rpT
 split
 ·exact ⟨[], _, rfl⟩
 ·rename_i hz
  split
  ·rename_i hv
   have hw:=vc_wide (p:=p) (s:=s) (Classical.not_not.1 hz) hv
   obtain ⟨l, e, h1, _⟩:=rp_form p s r.steps [r.start] r.start (by simpa using hw) hw
   exact ⟨l, e, h1⟩
  ·exact ⟨[], _, rfl⟩
theorem replayF (p : Pro) (s : Siz) (c : Cfg) (l : List Stp) (h : Rdy p s c) (ht : thrB p) (hl : l.length ≤ 140737488355328) : PSpec Tryz.prog 57 [.agg (encP p), .agg (encZ s), .agg (encC c), .sl stp0 encX l] (fun u=>u = rp p s [c] c l):=by
 refine PSpec.rp (rp_ex h.wide l) ?_
 refine PSpec.intro tt_ok mx_ok Tryz.func57 rfl (by decide) ?_; (conv=>whnf)
 refine boxP rfl ?_
 conv=>whnf
 refine boxP rfl ?_
 conv=>whnf
 refine boxP rfl ?_
 conv=>whnf
 refine Spec.news 400 (lmC 5 9 13 17) (memC c) (cfgL c) (cloneL c h.wide) (auto_) rfl outC ?_
 conv=>whnf
 refine bldI cfg0 encC [c] rfl ?_
 conv=>whnf
 refine WPc.loopF tt_ok mx_ok (fun z : Nat × List Cfg × Cfg=>z.1 ≤ l.length ∧ z.2.1.length = z.1 + 1 ∧ z.2.1.getD z.1 cfg0 = z.2.2 ∧ (Rdy p s z.2.2 ∧ potL c.states + (z.1 : Int) ≤ potL z.2.2.states) ∧ rp p s [c] c l = rp p s z.2.1 z.2.2 (l.drop z.1)) (fun z=>[(21, .int .i64 (z.1 : Int)), (17, .top), (18, .top), (10, .row 1000 z.2.1.length 6)]) (fun z=>[(1000, rowC z.2.1)]) (fun z=>l.length - z.1) (0, [c], c) ⟨Nat.zero_le _, rfl, rfl, ⟨h, by dsimp only; omega⟩, rfl⟩ ?_; conv=>whnf
 refine ⟨Sub.by_ [(1000, .old 18)] _ 400 rfl (auto_) (auto_), ?_⟩
 rintro ⟨k, acc, cur⟩ ⟨h1, h2, h3, ⟨h4, h6⟩, h5⟩
 dsimp only at h1 h2 h3 h4 h5 h6 ⊢
 have hpm:=pot_max h4
 have hp0:=pot_max h
 conv=>whnf
 refine cmpI ?_ ?_ <;> (intro g1; conv=>whnf)
 ·rw [dropX (by omega), rp] at h5
  refine nI ?_
  rw [tN]
  generalize l.getD k stp0 = x at h5
  conv=>whnf
  refine dI ?_
  conv=>whnf
  refine aI ?_
  conv=>whnf
  refine nI ?_
  rw [show ((acc.length : Int) - 1).toNat = k by omega]
  conv=>whnf
  rw [h3]
  (refine oC (seeF p s cur h4.wide) ?_; conv=>whnf)
  refine dC (enabledV p s cur x false h4) (fun _=>?_) (fun _=>?_) <;> (conv=>whnf)
  case refine_2 =>
   rename_i hn
   rw [if_neg hn] at h5
   exact ⟨.inr ⟨9, rfl, h5⟩, rfl⟩
  rename_i he
  rw [if_pos he] at h5
  have hup:=pot_up ht he
  have hA:=applyV p s cur x h4 he (K1_of ht h4.val he)
  have hN:=fun ha=>h4.next he ha
  unfold rulX at h5 hup
  generalize p.rules.getD x.rule.toNat rul0 = r at hA h5 hN hup
  by_cases ha : apB cur r x
  ·rw [if_pos ha] at h5
   refine Spec.news 400 (lmC 1001 1002 1003 1004) (memC (apC cur r x)) (.tup [cfgL (apC cur r x), .int .i64 0]) hA (auto_) rfl (fun u M' hR=>?_) ?_
   ·rcases hR with ⟨_, hT⟩ | ⟨hn, _⟩
    ·exact outU u M' hT
    ·exact absurd ha hn
   conv=>whnf
   repeat' ((first|refine nI ?_|refine aI ?_|refine tI ?_|refine fI ?_|fail);conv=>whnf)
   refine bldI cfg0 encC [apC cur r x] rfl ?_
   conv=>whnf
   refine appI [apC cur r x] rfl lI ?_
   conv=>whnf
   repeat' ((first|refine nI ?_|refine aI ?_|refine tI ?_|refine fI ?_|fail);conv=>whnf)
   refine ⟨(k + 1, acc ++ [apC cur r x], apC cur r x), Sub.by_ [(1000, .old 50)] _ 400 rfl (auto_) (auto_), ⟨by dsimp only; omega, by simp; omega, by dsimp only; rw [← h2]; exact last_snoc _ _, ⟨hN ha, by dsimp only; omega⟩, h5⟩, by dsimp only; omega⟩
  ·rw [if_neg ha] at h5
   refine Spec.news 400 [] [] (.tup [.agg cfgN, .int .i64 4]) hA (auto_) rfl (fun u M' hR=>?_) ?_
   ·rcases hR with ⟨hy, _⟩ | ⟨_, rfl⟩
    ·exact absurd hy ha
    ·exact ⟨trivial, auto_⟩
   conv=>whnf
   repeat' ((first|refine nI ?_|refine aI ?_|refine tI ?_|refine fI ?_|fail);conv=>whnf)
   exact ⟨.inr ⟨4, rfl, h5⟩, rfl⟩
 ·rw [List.drop_of_length_le (by omega)] at h5
  exact ⟨.inl h5.symm, rfl⟩
theorem replayR (p : Pro) (s : Siz) (c : Cfg) (l : List Stp) (h : Rdy p s c) (ht : thrB p) (hl : l.length ≤ 140737488355328) : PSpec Tryz.prog 77 [.agg (encP p), .agg (encZ s), .agg (encC c), .sl stp0 encX l] (fun u=>u = rp p s [c] c l):=by
 refine PSpec.rp (rp_ex h.wide l) ?_
 refine PSpec.intro tt_ok mx_ok Tryz.func77 rfl (by decide) ?_; (conv=>whnf)
 refine boxP rfl ?_
 conv=>whnf
 refine boxP rfl ?_
 conv=>whnf
 refine boxP rfl ?_
 conv=>whnf
 (refine oP (copyR c h.wide) ?_; conv=>whnf)
 refine bldI cfg0 encC [c] rfl ?_
 conv=>whnf
 refine WPc.loopF tt_ok mx_ok (fun z : Nat × List Cfg × Cfg=>z.1 ≤ l.length ∧ z.2.1.length = z.1 + 1 ∧ z.2.1.getD z.1 cfg0 = z.2.2 ∧ (Rdy p s z.2.2 ∧ potL c.states + (z.1 : Int) ≤ potL z.2.2.states) ∧ rp p s [c] c l = rp p s z.2.1 z.2.2 (l.drop z.1)) (fun z=>[(11, .int .i64 (z.1 : Int)), (16, .top), (10, .row 1000 z.2.1.length 6)]) (fun z=>[(1000, rowC z.2.1)]) (fun z=>l.length - z.1) (0, [c], c) ⟨Nat.zero_le _, rfl, rfl, ⟨h, by dsimp only; omega⟩, rfl⟩ ?_; conv=>whnf
 refine ⟨Sub.by_ [(1000, .old 16)] _ 400 rfl (auto_) (auto_), ?_⟩
 rintro ⟨k, acc, cur⟩ ⟨h1, h2, h3, ⟨h4, h6⟩, h5⟩
 dsimp only at h1 h2 h3 h4 h5 h6 ⊢
 have hpm:=pot_max h4
 have hp0:=pot_max h
 conv=>whnf
 refine cmpI ?_ ?_ <;> (intro g1; conv=>whnf)
 ·rw [dropX (by omega), rp] at h5
  refine dI ?_
  conv=>whnf
  refine aI ?_
  conv=>whnf
  refine nI ?_
  rw [show ((acc.length : Int) - 1).toNat = k by omega]
  conv=>whnf
  rw [h3]
  refine nI ?_
  rw [tN]
  generalize l.getD k stp0 = x at h5
  conv=>whnf
  by_cases he : enB p s cur x false
  case neg =>
   rw [if_neg he] at h5
   (refine oC (ApplyR_s p s cur x h4.big h4.wide h4.vcon he) ?_; conv=>whnf)
   repeat' ((first|refine nI ?_|refine aI ?_|refine tI ?_|refine fI ?_|fail);conv=>whnf)
   exact ⟨.inr ⟨9, rfl, h5⟩, rfl⟩
  rw [if_pos he] at h5
  have hup:=pot_up ht he
  have hA:=ApplyR_k p s cur x h4.big h4.wide h4.vcon he (K1_of ht h4.val he)
  have hA2:=ApplyR_l p s cur x h4.big h4.wide h4.vcon he (K1_of ht h4.val he)
  have hN:=fun ha=>h4.next he ha
  unfold rulX at h5 hup
  generalize p.rules.getD x.rule.toNat rul0 = r at hA hA2 h5 hN hup
  by_cases ha : apB cur r x
  ·rw [if_pos ha] at h5
   (refine oC (hA ha) ?_; conv=>whnf)
   repeat' ((first|refine nI ?_|refine aI ?_|refine tI ?_|refine fI ?_|fail);conv=>whnf)
   refine bldI cfg0 encC [apC cur r x] rfl ?_
   conv=>whnf
   refine appI [apC cur r x] rfl lI ?_
   conv=>whnf
   repeat' ((first|refine nI ?_|refine aI ?_|refine tI ?_|refine fI ?_|fail);conv=>whnf)
   refine ⟨(k + 1, acc ++ [apC cur r x], apC cur r x), Sub.by_ [(1000, .old 45)] _ 400 rfl (auto_) (auto_), ⟨by dsimp only; omega, by simp; omega, by dsimp only; rw [← h2]; exact last_snoc _ _, ⟨hN ha, by dsimp only; omega⟩, h5⟩, by dsimp only; omega⟩
  ·rw [if_neg ha] at h5
   (refine oC (hA2 ha) ?_; conv=>whnf)
   repeat' ((first|refine nI ?_|refine aI ?_|refine tI ?_|refine fI ?_|fail);conv=>whnf)
   exact ⟨.inr ⟨4, rfl, h5⟩, rfl⟩
 ·rw [List.drop_of_length_le (by omega)] at h5
  exact ⟨.inl h5.symm, rfl⟩
theorem ReplayF (p : Pro) (s : Siz) (r : Rn) (hok : okP p) (hval : validE p = 0) (ht : thrB p) (hc : okC r.start) (hl : r.steps.length ≤ 140737488355328) : PSpec Tryz.prog 14 [.agg (encP p), .agg (encZ s), .agg (encRn r)] (fun u=>u = rpT p s r):=by
 have he:=rpT.eq_1 p s r
 have hp:=not_big hval
 obtain ⟨m, e, hm⟩:=rpT_raw p s r
 refine PSpec.rp ⟨m, e, hm⟩ ?_
 refine PSpec.intro tt_ok mx_ok Tryz.func14 rfl (by decide) ?_; (conv=>whnf)
 refine boxP rfl ?_
 conv=>whnf
 refine boxP rfl ?_
 conv=>whnf
 refine boxP rfl ?_
 conv=>whnf
 (refine oP (checkSizeG p s hok) ?_; conv=>whnf)
 refine cmpI ?_ ?_ <;> (intro h1; conv=>whnf)
 ·rw [if_pos h1] at he; exact ⟨.inr ⟨_, rfl, he⟩, rfl⟩
 rw [if_neg h1] at he
 have h2:=sizeE_ok (p:=p) (s:=s) (by omega)
 (refine oP (validConfigG p s r.start hp hc (by omega)) ?_; conv=>whnf)
 by_cases h3 : VC p s r.start
 ·rw [if_pos h3] at he
  have hw:=vc_wide (p:=p) (s:=s) (by omega) h3
  have hv : vcE p s r.start = 0:=by unfold vcE; rw [if_pos h3]
  have h : Rdy p s r.start:=Rdy.of hp hw (by unfold vconE; rw [if_neg h1]; exact hv)
  refine fI ?_
  conv=>whnf
  (refine oP (replayF p s r.start r.steps h ht hl) ?_; conv=>whnf)
  obtain ⟨m', e', hm'⟩:=rp_ex (p:=p) (s:=s) hw r.steps
  rw [hm'] at he ⊢
  rw [he]
  conv=>whnf
  exact ⟨.inl rfl, rfl⟩
 ·rw [if_neg h3] at he
  have hv : vcE p s r.start = 1:=by unfold vcE; rw [if_neg h3]
  refine tI ?_
  conv=>whnf
  exact ⟨.inr ⟨_, rfl, he⟩, rfl⟩
theorem ReplayR (p : Pro) (s : Siz) (r : Rn) (hok : okP p) (hval : validE p = 0) (ht : thrB p) (hc : okC r.start) (hl : r.steps.length ≤ 140737488355328) : PSpec Tryz.prog 24 [.agg (encP p), .agg (encZ s), .agg (encRn r)] (fun u=>u = rpT p s r):=by
 have he:=rpT.eq_1 p s r
 have hp:=not_big hval
 obtain ⟨m, e, hm⟩:=rpT_raw p s r
 refine PSpec.rp ⟨m, e, hm⟩ ?_
 refine PSpec.intro tt_ok mx_ok Tryz.func24 rfl (by decide) ?_; (conv=>whnf)
 refine boxP rfl ?_
 conv=>whnf
 refine boxP rfl ?_
 conv=>whnf
 refine boxP rfl ?_
 conv=>whnf
 (refine oP (sizedH p s hok) ?_; conv=>whnf)
 refine cmpI ?_ ?_ <;> (intro h1; conv=>whnf)
 ·rw [if_pos h1] at he; exact ⟨.inr ⟨_, rfl, he⟩, rfl⟩
 rw [if_neg h1] at he
 have h2:=sizeE_ok (p:=p) (s:=s) (by omega)
 refine dC (validConfigH p s r.start hp hc (by omega)) (fun _=>?_) (fun _=>?_) <;> (conv=>whnf)
 ·rename_i h3
  rw [if_pos h3] at he
  have hw:=vc_wide (p:=p) (s:=s) (by omega) h3
  have hv : vcE p s r.start = 0:=by unfold vcE; rw [if_pos h3]
  have h : Rdy p s r.start:=Rdy.of hp hw (by unfold vconE; rw [if_neg h1]; exact hv)
  (refine oP (replayR p s r.start r.steps h ht hl) ?_; conv=>whnf)
  obtain ⟨m', e', hm'⟩:=rp_ex (p:=p) (s:=s) hw r.steps
  rw [hm'] at he ⊢
  rw [he]
  conv=>whnf
  exact ⟨.inl rfl, rfl⟩
 ·rename_i h3
  rw [if_neg h3] at he
  exact ⟨.inr ⟨_, rfl, he⟩, rfl⟩
end Go.Proofs.YtnjggjhkfncnlaaGreatDoor
