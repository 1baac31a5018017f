import Derived.Test.YtkanoljhphmdcaaGreatDoorFoO
set_option linter.unusedVariables false
set_option linter.unusedSimpArgs false
namespace Go.Proofs.YtkanoljhphmdcaaGreatDoor
set_option maxRecDepth 100000
set_option maxHeartbeats 16000000
theorem applyR1nt (p : Pro) (s : Siz) (c : Cfg) (x : Stp) (h : Rdy p s c) (he : enB p s c x false) (hk0 : (p.rules.getD x.rule.toNat rul0).kind = 1 ∨ (p.rules.getD x.rule.toNat rul0).kind = 4) (hwr0 : (p.rules.getD x.rule.toNat rul0).write = -1) (hcor0 : x.process < c.correct) : PSpec Tryz.prog 81 [.agg (encP p), .agg (encC c), .agg (encX x)] (fun u=>u = .tup [.agg (encC (apC c (p.rules.getD x.rule.toNat rul0) x)), .bool (decide (apB c (p.rules.getD x.rule.toNat rul0) x))]):=by
 have hle:=bigP_le h.big
 have hc:=wide_le h.wide
 obtain ⟨hin, hen⟩:=he
 have hR:=valid_rule h.val (i:=x.rule.toNat) (by omega)
 have hB:=bigP_rule h.big (j:=x.rule.toNat) (by omega)
 have hsn:=h.vc.snl
 have hfa:=h.vc.fal
 have hsta:=h.vc.sta
 refine PSpec.intro tt_ok mx_ok Tryz.func81 rfl (by decide) ?_; (conv=>whnf)
 refine boxP rfl ?_
 conv=>whnf
 refine boxP rfl ?_
 conv=>whnf
 refine boxP rfl ?_
 conv=>whnf
 refine drawF (by decide +kernel) ?_
 conv=>whnf
 refine nI ?_
 generalize p.rules.getD x.rule.toNat rul0 = r at hen hR hB hk0 hwr0 ⊢
 have hwr:=hwr0
 have hcor:=hcor0
 have hbr:=bigR_le hB
 have hrd:=hR.read
 have hfit:=hR.fit
 unfold fitB at hfit
 have hse:=hR.send
 conv=>whnf
 refine callLN 400 (lmC 1001 1002 1003 1004) (memC c) (cfgL c) (copyL c h.wide) (auto_) rfl rfl outC ?_
 conv=>whnf
 have hpl : x.process.toNat < c.states.length:=by omega
 have hpc : ((x.process.toNat : Nat) : Int) = x.process:=by omega
 have k14:=hk0
 have hst : c.states.set x.process.toNat r.dst = stN c r x:=st_of (by simp) fun j hj=>by
  rw [getD_set]
  unfold stG
  by_cases e : x.process.toNat = j
  ·rw [if_pos ⟨e, by omega⟩, if_pos (by omega)]
  ·rw [if_neg (fun h=>e h.1), if_neg (by omega), if_neg (by omega), if_neg (by omega)]
 repeat' ((first|refine nI ?_|refine aI ?_|refine tI ?_|refine fI ?_|fail);conv=>whnf)
 refine rowSetI _ rfl ?_
 rw [hst]
 conv=>whnf
 refine fI ?_
 conv=>whnf
 refine WPc.loopF tt_ok mx_ok (fun z : Nat × Bool=>z.1 ≤ r.send.length ∧ (z.2 = true ↔ ∀ j, j < z.1 → (bumpL c.sent (r.send.take (j + 1))).getD (r.send.getD j 0).toNat 0 ≤ 1048576)) (fun z=>[(12, .int .i64 (z.1 : Int)), (11, .bool z.2)]) (fun z=>apM2 c r c.value (stN c r x) (bumpL c.sent (r.send.take z.1)) c.faulty) (fun z=>r.send.length - z.1) (0, true) ⟨Nat.zero_le _, iffT (fun j hj=>by dsimp only at hj; omega)⟩ ?_; conv=>whnf
 refine ⟨sI, ?_⟩
 rintro ⟨k, b⟩ ⟨hk, hb⟩
 dsimp only at hk hb ⊢
 cases b
 ·conv=>whnf
  refine cmpI ?_ ?_ <;> (intro g1; conv=>whnf)
  ·have hm:=hse k (by omega)
   have hbb:=bumpL_b (r.send.take k) c.sent 1048576 (inR_all h.sent.1) (r.send.getD k 0).toNat
   have htl : (r.send.take k).length ≤ 60:=by rw [List.length_take]; omega
   have hup:=bumpL_up (l:=c.sent) (ms:=r.send) (k:=k) (by omega)
   refine cmpT hcor ?_
   conv=>whnf
   refine dI ?_
   conv=>whnf
   refine nI ?_
   rw [tN]
   conv=>whnf
   refine nI ?_
   conv=>whnf
   refine aI ?_
   conv=>whnf
   refine nI ?_
   conv=>whnf
   refine rowSetI _ rfl ?_
   rw [← hup]
   conv=>whnf
   refine dI ?_
   conv=>whnf
   repeat' ((first|refine nI ?_|refine aI ?_|refine tI ?_|refine fI ?_|fail);conv=>whnf)
   exact ⟨(k + 1, false), sI, ⟨by dsimp only; omega, iffF (fun hh=>nIff hb (fun j hj=>hh j (by omega)))⟩, by dsimp only; omega⟩
  ·obtain rfl : k = r.send.length:=by omega
   rw [List.take_length]
   have hap : ¬ apB c r x:=by unfold apB; rw [if_pos hcor]; exact nIff hb
   refine ⟨?_, rfl⟩
   rw [decide_eq_false hap, apC_t hcor, if_pos hwr]
   rfl
 ·conv=>whnf
  refine cmpI ?_ ?_ <;> (intro g1; conv=>whnf)
  ·have hm:=hse k (by omega)
   have hbb:=bumpL_b (r.send.take k) c.sent 1048576 (inR_all h.sent.1) (r.send.getD k 0).toNat
   have htl : (r.send.take k).length ≤ 60:=by rw [List.length_take]; omega
   have hup:=bumpL_up (l:=c.sent) (ms:=r.send) (k:=k) (by omega)
   refine cmpT hcor ?_
   conv=>whnf
   refine dI ?_
   conv=>whnf
   refine nI ?_
   rw [tN]
   conv=>whnf
   refine nI ?_
   conv=>whnf
   refine aI ?_
   conv=>whnf
   refine nI ?_
   conv=>whnf
   refine rowSetI _ rfl ?_
   rw [← hup]
   conv=>whnf
   refine dI ?_
   conv=>whnf
   refine nI ?_
   rw [tN]
   conv=>whnf
   refine nI ?_
   conv=>whnf
   refine cmpI ?_ ?_ <;> (intro g2; conv=>whnf)
   ·repeat' ((first|refine nI ?_|refine aI ?_|refine tI ?_|refine fI ?_|fail);conv=>whnf)
    exact ⟨(k + 1, true), sI, ⟨by dsimp only; omega, iffT (snd_up (hb.1 rfl) g2)⟩, by dsimp only; omega⟩
   ·repeat' ((first|refine nI ?_|refine aI ?_|refine tI ?_|refine fI ?_|fail);conv=>whnf)
    exact ⟨(k + 1, false), sI, ⟨by dsimp only; omega, iffF (fun hh=>g2 (hh k (by omega)))⟩, by dsimp only; omega⟩
  ·obtain rfl : k = r.send.length:=by omega
   rw [List.take_length]
   have hap : apB c r x:=by unfold apB; rw [if_pos hcor]; exact hb.1 rfl
   refine ⟨?_, rfl⟩
   rw [decide_eq_true hap, apC_t hcor, if_pos hwr]
   rfl
theorem applyR1nf (p : Pro) (s : Siz) (c : Cfg) (x : Stp) (h : Rdy p s c) (he : enB p s c x false) (hk0 : (p.rules.getD x.rule.toNat rul0).kind = 1 ∨ (p.rules.getD x.rule.toNat rul0).kind = 4) (hwr0 : (p.rules.getD x.rule.toNat rul0).write = -1) (hcor0 : ¬ x.process < c.correct) : PSpec Tryz.prog 81 [.agg (encP p), .agg (encC c), .agg (encX x)] (fun u=>u = .tup [.agg (encC (apC c (p.rules.getD x.rule.toNat rul0) x)), .bool (decide (apB c (p.rules.getD x.rule.toNat rul0) x))]):=by
 have hle:=bigP_le h.big
 have hc:=wide_le h.wide
 obtain ⟨hin, hen⟩:=he
 have hR:=valid_rule h.val (i:=x.rule.toNat) (by omega)
 have hB:=bigP_rule h.big (j:=x.rule.toNat) (by omega)
 have hsn:=h.vc.snl
 have hfa:=h.vc.fal
 have hsta:=h.vc.sta
 refine PSpec.intro tt_ok mx_ok Tryz.func81 rfl (by decide) ?_; (conv=>whnf)
 refine boxP rfl ?_
 conv=>whnf
 refine boxP rfl ?_
 conv=>whnf
 refine boxP rfl ?_
 conv=>whnf
 refine drawF (by decide +kernel) ?_
 conv=>whnf
 refine nI ?_
 generalize p.rules.getD x.rule.toNat rul0 = r at hen hR hB hk0 hwr0 ⊢
 have hwr:=hwr0
 have hcor:=hcor0
 have hbr:=bigR_le hB
 have hrd:=hR.read
 have hfit:=hR.fit
 unfold fitB at hfit
 have hse:=hR.send
 conv=>whnf
 refine callLN 400 (lmC 1001 1002 1003 1004) (memC c) (cfgL c) (copyL c h.wide) (auto_) rfl rfl outC ?_
 conv=>whnf
 have hpl : x.process.toNat < c.states.length:=by omega
 have hpc : ((x.process.toNat : Nat) : Int) = x.process:=by omega
 have k14:=hk0
 have hst : c.states.set x.process.toNat r.dst = stN c r x:=st_of (by simp) fun j hj=>by
  rw [getD_set]
  unfold stG
  by_cases e : x.process.toNat = j
  ·rw [if_pos ⟨e, by omega⟩, if_pos (by omega)]
  ·rw [if_neg (fun h=>e h.1), if_neg (by omega), if_neg (by omega), if_neg (by omega)]
 repeat' ((first|refine nI ?_|refine aI ?_|refine tI ?_|refine fI ?_|fail);conv=>whnf)
 refine rowSetI _ rfl ?_
 rw [hst]
 conv=>whnf
 refine fI ?_
 conv=>whnf
 refine WPc.loopF tt_ok mx_ok (fun z : Nat × Bool=>z.1 ≤ r.send.length ∧ (z.2 = true ↔ ∀ j, j < z.1 → (bumpL c.faulty (r.send.take (j + 1))).getD (r.send.getD j 0).toNat 0 ≤ 1048576)) (fun z=>[(12, .int .i64 (z.1 : Int)), (11, .bool z.2)]) (fun z=>apM2 c r c.value (stN c r x) c.sent (bumpL c.faulty (r.send.take z.1))) (fun z=>r.send.length - z.1) (0, true) ⟨Nat.zero_le _, iffT (fun j hj=>by dsimp only at hj; omega)⟩ ?_; conv=>whnf
 refine ⟨sI, ?_⟩
 rintro ⟨k, b⟩ ⟨hk, hb⟩
 dsimp only at hk hb ⊢
 cases b
 ·conv=>whnf
  refine cmpI ?_ ?_ <;> (intro g1; conv=>whnf)
  ·have hm:=hse k (by omega)
   have hbb:=bumpL_b (r.send.take k) c.faulty 1048576 (inR_all h.sent.2) (r.send.getD k 0).toNat
   have htl : (r.send.take k).length ≤ 60:=by rw [List.length_take]; omega
   have hup:=bumpL_up (l:=c.faulty) (ms:=r.send) (k:=k) (by omega)
   refine cmpF hcor ?_
   conv=>whnf
   refine dI ?_
   conv=>whnf
   refine nI ?_
   rw [tN]
   conv=>whnf
   refine nI ?_
   conv=>whnf
   refine aI ?_
   conv=>whnf
   refine nI ?_
   conv=>whnf
   refine rowSetI _ rfl ?_
   rw [← hup]
   conv=>whnf
   refine dI ?_
   conv=>whnf
   repeat' ((first|refine nI ?_|refine aI ?_|refine tI ?_|refine fI ?_|fail);conv=>whnf)
   exact ⟨(k + 1, false), sI, ⟨by dsimp only; omega, iffF (fun hh=>nIff hb (fun j hj=>hh j (by omega)))⟩, by dsimp only; omega⟩
  ·obtain rfl : k = r.send.length:=by omega
   rw [List.take_length]
   have hap : ¬ apB c r x:=by unfold apB; rw [if_neg hcor]; exact nIff hb
   refine ⟨?_, rfl⟩
   rw [decide_eq_false hap, apC_f hcor, if_pos hwr]
   rfl
 ·conv=>whnf
  refine cmpI ?_ ?_ <;> (intro g1; conv=>whnf)
  ·have hm:=hse k (by omega)
   have hbb:=bumpL_b (r.send.take k) c.faulty 1048576 (inR_all h.sent.2) (r.send.getD k 0).toNat
   have htl : (r.send.take k).length ≤ 60:=by rw [List.length_take]; omega
   have hup:=bumpL_up (l:=c.faulty) (ms:=r.send) (k:=k) (by omega)
   refine cmpF hcor ?_
   conv=>whnf
   refine dI ?_
   conv=>whnf
   refine nI ?_
   rw [tN]
   conv=>whnf
   refine nI ?_
   conv=>whnf
   refine aI ?_
   conv=>whnf
   refine nI ?_
   conv=>whnf
   refine rowSetI _ rfl ?_
   rw [← hup]
   conv=>whnf
   refine dI ?_
   conv=>whnf
   refine nI ?_
   rw [tN]
   conv=>whnf
   refine nI ?_
   conv=>whnf
   refine cmpI ?_ ?_ <;> (intro g2; conv=>whnf)
   ·repeat' ((first|refine nI ?_|refine aI ?_|refine tI ?_|refine fI ?_|fail);conv=>whnf)
    exact ⟨(k + 1, true), sI, ⟨by dsimp only; omega, iffT (snd_up (hb.1 rfl) g2)⟩, by dsimp only; omega⟩
   ·repeat' ((first|refine nI ?_|refine aI ?_|refine tI ?_|refine fI ?_|fail);conv=>whnf)
    exact ⟨(k + 1, false), sI, ⟨by dsimp only; omega, iffF (fun hh=>g2 (hh k (by omega)))⟩, by dsimp only; omega⟩
  ·obtain rfl : k = r.send.length:=by omega
   rw [List.take_length]
   have hap : apB c r x:=by unfold apB; rw [if_neg hcor]; exact hb.1 rfl
   refine ⟨?_, rfl⟩
   rw [decide_eq_true hap, apC_f hcor, if_pos hwr]
   rfl
theorem applyR1wt (p : Pro) (s : Siz) (c : Cfg) (x : Stp) (h : Rdy p s c) (he : enB p s c x false) (hk0 : (p.rules.getD x.rule.toNat rul0).kind = 1 ∨ (p.rules.getD x.rule.toNat rul0).kind = 4) (hwr0 : (p.rules.getD x.rule.toNat rul0).write ≠ -1) (hcor0 : x.process < c.correct) : PSpec Tryz.prog 81 [.agg (encP p), .agg (encC c), .agg (encX x)] (fun u=>u = .tup [.agg (encC (apC c (p.rules.getD x.rule.toNat rul0) x)), .bool (decide (apB c (p.rules.getD x.rule.toNat rul0) x))]):=by
 have hle:=bigP_le h.big
 have hc:=wide_le h.wide
 obtain ⟨hin, hen⟩:=he
 have hR:=valid_rule h.val (i:=x.rule.toNat) (by omega)
 have hB:=bigP_rule h.big (j:=x.rule.toNat) (by omega)
 have hsn:=h.vc.snl
 have hfa:=h.vc.fal
 have hsta:=h.vc.sta
 refine PSpec.intro tt_ok mx_ok Tryz.func81 rfl (by decide) ?_; (conv=>whnf)
 refine boxP rfl ?_
 conv=>whnf
 refine boxP rfl ?_
 conv=>whnf
 refine boxP rfl ?_
 conv=>whnf
 refine drawF (by decide +kernel) ?_
 conv=>whnf
 refine nI ?_
 generalize p.rules.getD x.rule.toNat rul0 = r at hen hR hB hk0 hwr0 ⊢
 have hwr:=hwr0
 have hcor:=hcor0
 have hbr:=bigR_le hB
 have hrd:=hR.read
 have hfit:=hR.fit
 unfold fitB at hfit
 have hse:=hR.send
 conv=>whnf
 refine callLN 400 (lmC 1001 1002 1003 1004) (memC c) (cfgL c) (copyL c h.wide) (auto_) rfl rfl outC ?_
 conv=>whnf
 have hpl : x.process.toNat < c.states.length:=by omega
 have hpc : ((x.process.toNat : Nat) : Int) = x.process:=by omega
 have k14:=hk0
 have hst : c.states.set x.process.toNat r.dst = stN c r x:=st_of (by simp) fun j hj=>by
  rw [getD_set]
  unfold stG
  by_cases e : x.process.toNat = j
  ·rw [if_pos ⟨e, by omega⟩, if_pos (by omega)]
  ·rw [if_neg (fun h=>e h.1), if_neg (by omega), if_neg (by omega), if_neg (by omega)]
 repeat' ((first|refine nI ?_|refine aI ?_|refine tI ?_|refine fI ?_|fail);conv=>whnf)
 refine rowSetI _ rfl ?_
 rw [hst]
 conv=>whnf
 refine tI ?_
 conv=>whnf
 refine WPc.loopF tt_ok mx_ok (fun z : Nat × Bool=>z.1 ≤ r.send.length ∧ (z.2 = true ↔ ∀ j, j < z.1 → (bumpL c.sent (r.send.take (j + 1))).getD (r.send.getD j 0).toNat 0 ≤ 1048576)) (fun z=>[(12, .int .i64 (z.1 : Int)), (11, .bool z.2)]) (fun z=>apM2 c r r.write (stN c r x) (bumpL c.sent (r.send.take z.1)) c.faulty) (fun z=>r.send.length - z.1) (0, true) ⟨Nat.zero_le _, iffT (fun j hj=>by dsimp only at hj; omega)⟩ ?_; conv=>whnf
 refine ⟨sI, ?_⟩
 rintro ⟨k, b⟩ ⟨hk, hb⟩
 dsimp only at hk hb ⊢
 cases b
 ·conv=>whnf
  refine cmpI ?_ ?_ <;> (intro g1; conv=>whnf)
  ·have hm:=hse k (by omega)
   have hbb:=bumpL_b (r.send.take k) c.sent 1048576 (inR_all h.sent.1) (r.send.getD k 0).toNat
   have htl : (r.send.take k).length ≤ 60:=by rw [List.length_take]; omega
   have hup:=bumpL_up (l:=c.sent) (ms:=r.send) (k:=k) (by omega)
   refine cmpT hcor ?_
   conv=>whnf
   refine dI ?_
   conv=>whnf
   refine nI ?_
   rw [tN]
   conv=>whnf
   refine nI ?_
   conv=>whnf
   refine aI ?_
   conv=>whnf
   refine nI ?_
   conv=>whnf
   refine rowSetI _ rfl ?_
   rw [← hup]
   conv=>whnf
   refine dI ?_
   conv=>whnf
   repeat' ((first|refine nI ?_|refine aI ?_|refine tI ?_|refine fI ?_|fail);conv=>whnf)
   exact ⟨(k + 1, false), sI, ⟨by dsimp only; omega, iffF (fun hh=>nIff hb (fun j hj=>hh j (by omega)))⟩, by dsimp only; omega⟩
  ·obtain rfl : k = r.send.length:=by omega
   rw [List.take_length]
   have hap : ¬ apB c r x:=by unfold apB; rw [if_pos hcor]; exact nIff hb
   refine ⟨?_, rfl⟩
   rw [decide_eq_false hap, apC_t hcor, if_neg hwr]
   rfl
 ·conv=>whnf
  refine cmpI ?_ ?_ <;> (intro g1; conv=>whnf)
  ·have hm:=hse k (by omega)
   have hbb:=bumpL_b (r.send.take k) c.sent 1048576 (inR_all h.sent.1) (r.send.getD k 0).toNat
   have htl : (r.send.take k).length ≤ 60:=by rw [List.length_take]; omega
   have hup:=bumpL_up (l:=c.sent) (ms:=r.send) (k:=k) (by omega)
   refine cmpT hcor ?_
   conv=>whnf
   refine dI ?_
   conv=>whnf
   refine nI ?_
   rw [tN]
   conv=>whnf
   refine nI ?_
   conv=>whnf
   refine aI ?_
   conv=>whnf
   refine nI ?_
   conv=>whnf
   refine rowSetI _ rfl ?_
   rw [← hup]
   conv=>whnf
   refine dI ?_
   conv=>whnf
   refine nI ?_
   rw [tN]
   conv=>whnf
   refine nI ?_
   conv=>whnf
   refine cmpI ?_ ?_ <;> (intro g2; conv=>whnf)
   ·repeat' ((first|refine nI ?_|refine aI ?_|refine tI ?_|refine fI ?_|fail);conv=>whnf)
    exact ⟨(k + 1, true), sI, ⟨by dsimp only; omega, iffT (snd_up (hb.1 rfl) g2)⟩, by dsimp only; omega⟩
   ·repeat' ((first|refine nI ?_|refine aI ?_|refine tI ?_|refine fI ?_|fail);conv=>whnf)
    exact ⟨(k + 1, false), sI, ⟨by dsimp only; omega, iffF (fun hh=>g2 (hh k (by omega)))⟩, by dsimp only; omega⟩
  ·obtain rfl : k = r.send.length:=by omega
   rw [List.take_length]
   have hap : apB c r x:=by unfold apB; rw [if_pos hcor]; exact hb.1 rfl
   refine ⟨?_, rfl⟩
   rw [decide_eq_true hap, apC_t hcor, if_neg hwr]
   rfl
theorem applyR1wf (p : Pro) (s : Siz) (c : Cfg) (x : Stp) (h : Rdy p s c) (he : enB p s c x false) (hk0 : (p.rules.getD x.rule.toNat rul0).kind = 1 ∨ (p.rules.getD x.rule.toNat rul0).kind = 4) (hwr0 : (p.rules.getD x.rule.toNat rul0).write ≠ -1) (hcor0 : ¬ x.process < c.correct) : PSpec Tryz.prog 81 [.agg (encP p), .agg (encC c), .agg (encX x)] (fun u=>u = .tup [.agg (encC (apC c (p.rules.getD x.rule.toNat rul0) x)), .bool (decide (apB c (p.rules.getD x.rule.toNat rul0) x))]):=by
 have hle:=bigP_le h.big
 have hc:=wide_le h.wide
 obtain ⟨hin, hen⟩:=he
 have hR:=valid_rule h.val (i:=x.rule.toNat) (by omega)
 have hB:=bigP_rule h.big (j:=x.rule.toNat) (by omega)
 have hsn:=h.vc.snl
 have hfa:=h.vc.fal
 have hsta:=h.vc.sta
 refine PSpec.intro tt_ok mx_ok Tryz.func81 rfl (by decide) ?_; (conv=>whnf)
 refine boxP rfl ?_
 conv=>whnf
 refine boxP rfl ?_
 conv=>whnf
 refine boxP rfl ?_
 conv=>whnf
 refine drawF (by decide +kernel) ?_
 conv=>whnf
 refine nI ?_
 generalize p.rules.getD x.rule.toNat rul0 = r at hen hR hB hk0 hwr0 ⊢
 have hwr:=hwr0
 have hcor:=hcor0
 have hbr:=bigR_le hB
 have hrd:=hR.read
 have hfit:=hR.fit
 unfold fitB at hfit
 have hse:=hR.send
 conv=>whnf
 refine callLN 400 (lmC 1001 1002 1003 1004) (memC c) (cfgL c) (copyL c h.wide) (auto_) rfl rfl outC ?_
 conv=>whnf
 have hpl : x.process.toNat < c.states.length:=by omega
 have hpc : ((x.process.toNat : Nat) : Int) = x.process:=by omega
 have k14:=hk0
 have hst : c.states.set x.process.toNat r.dst = stN c r x:=st_of (by simp) fun j hj=>by
  rw [getD_set]
  unfold stG
  by_cases e : x.process.toNat = j
  ·rw [if_pos ⟨e, by omega⟩, if_pos (by omega)]
  ·rw [if_neg (fun h=>e h.1), if_neg (by omega), if_neg (by omega), if_neg (by omega)]
 repeat' ((first|refine nI ?_|refine aI ?_|refine tI ?_|refine fI ?_|fail);conv=>whnf)
 refine rowSetI _ rfl ?_
 rw [hst]
 conv=>whnf
 refine tI ?_
 conv=>whnf
 refine WPc.loopF tt_ok mx_ok (fun z : Nat × Bool=>z.1 ≤ r.send.length ∧ (z.2 = true ↔ ∀ j, j < z.1 → (bumpL c.faulty (r.send.take (j + 1))).getD (r.send.getD j 0).toNat 0 ≤ 1048576)) (fun z=>[(12, .int .i64 (z.1 : Int)), (11, .bool z.2)]) (fun z=>apM2 c r r.write (stN c r x) c.sent (bumpL c.faulty (r.send.take z.1))) (fun z=>r.send.length - z.1) (0, true) ⟨Nat.zero_le _, iffT (fun j hj=>by dsimp only at hj; omega)⟩ ?_; conv=>whnf
 refine ⟨sI, ?_⟩
 rintro ⟨k, b⟩ ⟨hk, hb⟩
 dsimp only at hk hb ⊢
 cases b
 ·conv=>whnf
  refine cmpI ?_ ?_ <;> (intro g1; conv=>whnf)
  ·have hm:=hse k (by omega)
   have hbb:=bumpL_b (r.send.take k) c.faulty 1048576 (inR_all h.sent.2) (r.send.getD k 0).toNat
   have htl : (r.send.take k).length ≤ 60:=by rw [List.length_take]; omega
   have hup:=bumpL_up (l:=c.faulty) (ms:=r.send) (k:=k) (by omega)
   refine cmpF hcor ?_
   conv=>whnf
   refine dI ?_
   conv=>whnf
   refine nI ?_
   rw [tN]
   conv=>whnf
   refine nI ?_
   conv=>whnf
   refine aI ?_
   conv=>whnf
   refine nI ?_
   conv=>whnf
   refine rowSetI _ rfl ?_
   rw [← hup]
   conv=>whnf
   refine dI ?_
   conv=>whnf
   repeat' ((first|refine nI ?_|refine aI ?_|refine tI ?_|refine fI ?_|fail);conv=>whnf)
   exact ⟨(k + 1, false), sI, ⟨by dsimp only; omega, iffF (fun hh=>nIff hb (fun j hj=>hh j (by omega)))⟩, by dsimp only; omega⟩
  ·obtain rfl : k = r.send.length:=by omega
   rw [List.take_length]
   have hap : ¬ apB c r x:=by unfold apB; rw [if_neg hcor]; exact nIff hb
   refine ⟨?_, rfl⟩
   rw [decide_eq_false hap, apC_f hcor, if_neg hwr]
   rfl
 ·conv=>whnf
  refine cmpI ?_ ?_ <;> (intro g1; conv=>whnf)
  ·have hm:=hse k (by omega)
   have hbb:=bumpL_b (r.send.take k) c.faulty 1048576 (inR_all h.sent.2) (r.send.getD k 0).toNat
   have htl : (r.send.take k).length ≤ 60:=by rw [List.length_take]; omega
   have hup:=bumpL_up (l:=c.faulty) (ms:=r.send) (k:=k) (by omega)
   refine cmpF hcor ?_
   conv=>whnf
   refine dI ?_
   conv=>whnf
   refine nI ?_
   rw [tN]
   conv=>whnf
   refine nI ?_
   conv=>whnf
   refine aI ?_
   conv=>whnf
   refine nI ?_
   conv=>whnf
   refine rowSetI _ rfl ?_
   rw [← hup]
   conv=>whnf
   refine dI ?_
   conv=>whnf
   refine nI ?_
   rw [tN]
   conv=>whnf
   refine nI ?_
   conv=>whnf
   refine cmpI ?_ ?_ <;> (intro g2; conv=>whnf)
   ·repeat' ((first|refine nI ?_|refine aI ?_|refine tI ?_|refine fI ?_|fail);conv=>whnf)
    exact ⟨(k + 1, true), sI, ⟨by dsimp only; omega, iffT (snd_up (hb.1 rfl) g2)⟩, by dsimp only; omega⟩
   ·repeat' ((first|refine nI ?_|refine aI ?_|refine tI ?_|refine fI ?_|fail);conv=>whnf)
    exact ⟨(k + 1, false), sI, ⟨by dsimp only; omega, iffF (fun hh=>g2 (hh k (by omega)))⟩, by dsimp only; omega⟩
  ·obtain rfl : k = r.send.length:=by omega
   rw [List.take_length]
   have hap : apB c r x:=by unfold apB; rw [if_neg hcor]; exact hb.1 rfl
   refine ⟨?_, rfl⟩
   rw [decide_eq_true hap, apC_f hcor, if_neg hwr]
   rfl
end Go.Proofs.YtkanoljhphmdcaaGreatDoor
