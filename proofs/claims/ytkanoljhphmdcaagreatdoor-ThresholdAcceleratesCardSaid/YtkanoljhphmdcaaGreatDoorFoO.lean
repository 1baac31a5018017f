import Derived.Test.YtkanoljhphmdcaaGreatDoorMN
set_option linter.unusedVariables false
set_option linter.unusedSimpArgs false
namespace Go.Proofs.YtkanoljhphmdcaaGreatDoor
set_option maxRecDepth 100000
set_option maxHeartbeats 16000000
def cfgN : List AV:=[.nilsl, .nilsl, .int .i64 0, .nilsl, .nilsl, .int .i64 0]
def apR (c : Cfg) (r : Rul) (x : Stp) : AV → Mem → Prop:=fun u M=>(apB c r x ∧ isT 1001 1002 1003 1004 (apC c r x) 0 u M) ∨ (¬ apB c r x ∧ u = .tup [.agg cfgN, .int .i64 4])
def bxC (c : Cfg) (v : Int) : Blk:=.box 36 [.row 1001 c.shape.length 1, .row 1002 c.states.length 1, .int .i64 c.correct, .row 1003 c.sent.length 1, .row 1004 c.faulty.length 1, .int .i64 v]
def bxN : Blk:=.box 36 cfgN
def bxR (r : Rul) : Blk:=.box 94 (encR r)
def apM (c : Cfg) (r : Rul) (st se fa : List Int) : List (Nat × Blk):=[(4, bxN), (6, bxR r), (7, bxC c c.value), (1001, rowN c.shape), (1002, rowN st), (1003, rowN se), (1004, rowN fa)]
theorem en_kin {p : Pro} {s : Siz} {c : Cfg} {r : Rul} {x : Stp} {f : Bool} (h : enC p s c r x f) (hk : r.kind = 2 ∨ r.kind = 5) : prtB c r x:=by
 have:=h.2.2
 unfold kinB at this
 rw [if_pos hk] at this
 exact this.1
theorem cfg_eq {a b d e : Nat} {c : Cfg} {n1 n2 n3 n4 : Nat} {k v : Int} (h1 : n1 = c.shape.length) (h2 : n2 = c.states.length) (h3 : n3 = c.sent.length) (h4 : n4 = c.faulty.length) (h5 : k = c.correct) (h6 : v = c.value) :
  AV.tup [.agg [.row a n1 1, .row b n2 1, .int .i64 k, .row d n3 1, .row e n4 1, .int .i64 v], .int .i64 0] = .tup [cfgA a b d e c, .int .i64 0]:=by
 subst h1; subst h2; subst h3; subst h4; subst h5; subst h6; rfl
theorem apC_t {c : Cfg} {r : Rul} {x : Stp} (h : x.process < c.correct) : apC c r x = ⟨c.shape, stN c r x, c.correct, bumpL c.sent r.send, c.faulty, if r.write = -1 then c.value else r.write⟩:=by
 unfold apC; rw [if_pos h, if_pos h]
theorem apC_f {c : Cfg} {r : Rul} {x : Stp} (h : ¬ x.process < c.correct) : apC c r x = ⟨c.shape, stN c r x, c.correct, c.sent, bumpL c.faulty r.send, if r.write = -1 then c.value else r.write⟩:=by
 unfold apC; rw [if_neg h, if_neg h]
theorem applyV1t (p : Pro) (s : Siz) (c : Cfg) (x : Stp) (h : Rdy p s c) (he : enB p s c x false) (hk0 : (p.rules.getD x.rule.toNat rul0).kind = 1 ∨ (p.rules.getD x.rule.toNat rul0).kind = 4) (hcor0 : x.process < c.correct) : Spec Tryz.prog 38 [.agg (encV p s c), .agg (encX x)] (Mem.ofL []) (apR c (p.rules.getD x.rule.toNat rul0) x):=by
 have hle:=bigP_le h.big
 have hc:=wide_le h.wide
 obtain ⟨hin, hen⟩:=he
 have hR:=valid_rule h.val (i:=x.rule.toNat) (by omega)
 have hB:=bigP_rule h.big (j:=x.rule.toNat) (by omega)
 have hsn:=h.vc.snl
 have hfa:=h.vc.fal
 have hsta:=h.vc.sta
 have hco : 0 ≤ c.correct ∧ c.correct ≤ 8:=by
  have:=h.vc.cor
  have:=h.sz
  omega
 refine Spec.intro tt_ok mx_ok [] Tryz.func38 rfl (by decide) ?_
 conv=>whnf
 refine boxP rfl ?_
 conv=>whnf
 refine boxP rfl ?_
 conv=>whnf
 refine nI ?_
 generalize p.rules.getD x.rule.toNat rul0 = r at hen hR hB hk0
 have hcor:=hcor0
 have hbr:=bigR_le hB
 have hrd:=hR.read
 have hfit:=hR.fit
 unfold fitB at hfit
 have hse:=hR.send
 conv=>whnf
 refine Spec.news 400 (lmC 5 9 13 17) (memC c) (cfgL c) (cloneL c h.wide) (auto_) rfl outC ?_
 conv=>whnf
 refine nI ?_
 conv=>whnf
 refine rowSetI _ rfl ?_
 conv=>whnf
 have hpl : x.process.toNat < c.states.length:=by omega
 have hpc : ((x.process.toNat : Nat) : Int) = x.process:=by omega
 have k14:=hk0
 have hst : c.states.set x.process.toNat r.dst = stN c r x:=st_of (by simp) fun j hj=>by
  rw [getD_set]
  unfold stG
  by_cases e : x.process.toNat = j
  ·rw [if_pos ⟨e, by omega⟩, if_pos (by omega)]
  ·rw [if_neg (fun h=>e h.1), if_neg (by omega), if_neg (by omega), if_neg (by omega)]
 rw [hst]
 repeat' ((first|refine nI ?_|refine aI ?_|refine tI ?_|refine fI ?_|fail);conv=>whnf)
 repeat' ((first|refine nI ?_|refine aI ?_|refine tI ?_|refine fI ?_|fail);conv=>whnf)
 refine WPc.loopF tt_ok mx_ok (fun k : Nat=>k ≤ r.send.length ∧ ∀ j, j < k → (bumpL c.sent (r.send.take (j + 1))).getD (r.send.getD j 0).toNat 0 ≤ 1048576) (fun k=>[(79, .int .i64 (k : Int))]) (fun k=>apM c r (stN c r x) (bumpL c.sent (r.send.take k)) c.faulty) (fun k=>r.send.length - k) 0 ⟨by omega, fun j hj=>by omega⟩ ?_; conv=>whnf
 refine ⟨sI, ?_⟩
 rintro k ⟨hk, ha⟩
 conv=>whnf
 refine cmpI ?_ ?_ <;> (intro g1; conv=>whnf)
 ·have hm:=hse k (by omega)
  have hb:=bumpL_b (r.send.take k) c.sent 1048576 (inR_all h.sent.1) (r.send.getD k 0).toNat
  have htl : (r.send.take k).length ≤ 60:=by rw [List.length_take]; omega
  have hup:=bumpL_up (l:=c.sent) (ms:=r.send) (k:=k) (by omega)
  refine nI ?_
  rw [tN]
  conv=>whnf
  refine nI ?_
  conv=>whnf
  refine aI ?_
  conv=>whnf
  refine nI ?_
  conv=>whnf
  refine rowSetI _ rfl ?_
  rw [← hup]
  conv=>whnf
  refine nI ?_
  conv=>whnf
  refine cmpI ?_ ?_ <;> (intro g2; conv=>whnf)
  ·exact .inr ⟨fun hap=>by unfold apB at hap; rw [if_pos hcor] at hap; have:=hap k (by omega); omega, rfl⟩
  ·repeat' ((first|refine nI ?_|refine aI ?_|refine tI ?_|refine fI ?_|fail);conv=>whnf)
   refine ⟨k + 1, sI, ⟨by omega, fun j hj=>?_⟩, by dsimp only; omega⟩
   by_cases e : j = k
   ·subst e; omega
   ·exact ha j (by omega)
 ·obtain rfl : k = r.send.length:=by omega
  rw [List.take_length]
  have hap : apB c r x:=by unfold apB; rw [if_pos hcor]; exact ha
  by_cases hwr : r.write = -1
  ·repeat' ((first|refine nI ?_|refine aI ?_|refine tI ?_|refine fI ?_|fail);conv=>whnf)
   refine .inl ⟨hap, ?_⟩
   rw [apC_t hcor, if_pos hwr]
   exact ⟨cfg_eq rfl (stN_len _ _ _).symm (bumpL_len _ _).symm rfl rfl rfl, rfl, rfl, rfl, rfl⟩
  ·repeat' ((first|refine nI ?_|refine aI ?_|refine tI ?_|refine fI ?_|fail);conv=>whnf)
   refine .inl ⟨hap, ?_⟩
   rw [apC_t hcor, if_neg hwr]
   exact ⟨cfg_eq rfl (stN_len _ _ _).symm (bumpL_len _ _).symm rfl rfl rfl, rfl, rfl, rfl, rfl⟩
theorem applyV2t (p : Pro) (s : Siz) (c : Cfg) (x : Stp) (h : Rdy p s c) (he : enB p s c x false) (hk0 : (p.rules.getD x.rule.toNat rul0).kind = 2) (hcor0 : x.process < c.correct) : Spec Tryz.prog 38 [.agg (encV p s c), .agg (encX x)] (Mem.ofL []) (apR c (p.rules.getD x.rule.toNat rul0) x):=by
 have hle:=bigP_le h.big
 have hc:=wide_le h.wide
 obtain ⟨hin, hen⟩:=he
 have hR:=valid_rule h.val (i:=x.rule.toNat) (by omega)
 have hB:=bigP_rule h.big (j:=x.rule.toNat) (by omega)
 have hsn:=h.vc.snl
 have hfa:=h.vc.fal
 have hsta:=h.vc.sta
 have hco : 0 ≤ c.correct ∧ c.correct ≤ 8:=by
  have:=h.vc.cor
  have:=h.sz
  omega
 refine Spec.intro tt_ok mx_ok [] Tryz.func38 rfl (by decide) ?_
 conv=>whnf
 refine boxP rfl ?_
 conv=>whnf
 refine boxP rfl ?_
 conv=>whnf
 refine nI ?_
 generalize p.rules.getD x.rule.toNat rul0 = r at hen hR hB hk0
 have hcor:=hcor0
 have hbr:=bigR_le hB
 have hrd:=hR.read
 have hfit:=hR.fit
 unfold fitB at hfit
 have hse:=hR.send
 conv=>whnf
 refine Spec.news 400 (lmC 5 9 13 17) (memC c) (cfgL c) (cloneL c h.wide) (auto_) rfl outC ?_
 conv=>whnf
 refine nI ?_
 conv=>whnf
 refine rowSetI _ rfl ?_
 conv=>whnf
 have hpl : x.process.toNat < c.states.length:=by omega
 have hpc : ((x.process.toNat : Nat) : Int) = x.process:=by omega
 have k25 : r.kind = 2 ∨ r.kind = 5:=.inl hk0
 obtain ⟨g1, g2, g3, g4⟩:=en_kin hen k25
 have hst : (c.states.set x.process.toNat r.dst).set x.partner.toNat r.pto = stN c r x:=st_of (by simp) fun j hj=>by
  rw [getD_set, getD_set, List.length_set]
  unfold stG
  by_cases e2 : x.partner.toNat = j
  ·rw [if_pos ⟨e2, by omega⟩, if_neg (by omega), if_pos ⟨k25, by omega⟩]
  ·rw [if_neg (fun h=>e2 h.1)]
   by_cases e : x.process.toNat = j
   ·rw [if_pos ⟨e, by omega⟩, if_pos (by omega)]
   ·rw [if_neg (fun h=>e h.1), if_neg (by omega), if_neg (fun h=>e2 (by omega)), if_neg (by omega)]
 repeat' (first | (refine tI ?_; conv=>whnf) | (refine fI ?_; conv=>whnf) | fail)
 refine needI ⟨g1, g2⟩ ?_
 rw [forceK_eq]
 dsimp only
 rw [putD_eq]
 refine ops_store rfl rfl rfl rfl rfl ?_
 rw [hst]
 conv=>whnf
 repeat' ((first|refine nI ?_|refine aI ?_|refine tI ?_|refine fI ?_|fail);conv=>whnf)
 refine WPc.loopF tt_ok mx_ok (fun k : Nat=>k ≤ r.send.length ∧ ∀ j, j < k → (bumpL c.sent (r.send.take (j + 1))).getD (r.send.getD j 0).toNat 0 ≤ 1048576) (fun k=>[(79, .int .i64 (k : Int))]) (fun k=>apM c r (stN c r x) (bumpL c.sent (r.send.take k)) c.faulty) (fun k=>r.send.length - k) 0 ⟨by omega, fun j hj=>by omega⟩ ?_; conv=>whnf
 refine ⟨sI, ?_⟩
 rintro k ⟨hk, ha⟩
 conv=>whnf
 refine cmpI ?_ ?_ <;> (intro g1; conv=>whnf)
 ·have hm:=hse k (by omega)
  have hb:=bumpL_b (r.send.take k) c.sent 1048576 (inR_all h.sent.1) (r.send.getD k 0).toNat
  have htl : (r.send.take k).length ≤ 60:=by rw [List.length_take]; omega
  have hup:=bumpL_up (l:=c.sent) (ms:=r.send) (k:=k) (by omega)
  refine nI ?_
  rw [tN]
  conv=>whnf
  refine nI ?_
  conv=>whnf
  refine aI ?_
  conv=>whnf
  refine nI ?_
  conv=>whnf
  refine rowSetI _ rfl ?_
  rw [← hup]
  conv=>whnf
  refine nI ?_
  conv=>whnf
  refine cmpI ?_ ?_ <;> (intro g2; conv=>whnf)
  ·exact .inr ⟨fun hap=>by unfold apB at hap; rw [if_pos hcor] at hap; have:=hap k (by omega); omega, rfl⟩
  ·repeat' ((first|refine nI ?_|refine aI ?_|refine tI ?_|refine fI ?_|fail);conv=>whnf)
   refine ⟨k + 1, sI, ⟨by omega, fun j hj=>?_⟩, by dsimp only; omega⟩
   by_cases e : j = k
   ·subst e; omega
   ·exact ha j (by omega)
 ·obtain rfl : k = r.send.length:=by omega
  rw [List.take_length]
  have hap : apB c r x:=by unfold apB; rw [if_pos hcor]; exact ha
  by_cases hwr : r.write = -1
  ·repeat' ((first|refine nI ?_|refine aI ?_|refine tI ?_|refine fI ?_|fail);conv=>whnf)
   refine .inl ⟨hap, ?_⟩
   rw [apC_t hcor, if_pos hwr]
   exact ⟨cfg_eq rfl (stN_len _ _ _).symm (bumpL_len _ _).symm rfl rfl rfl, rfl, rfl, rfl, rfl⟩
  ·repeat' ((first|refine nI ?_|refine aI ?_|refine tI ?_|refine fI ?_|fail);conv=>whnf)
   refine .inl ⟨hap, ?_⟩
   rw [apC_t hcor, if_neg hwr]
   exact ⟨cfg_eq rfl (stN_len _ _ _).symm (bumpL_len _ _).symm rfl rfl rfl, rfl, rfl, rfl, rfl⟩
theorem applyV5t (p : Pro) (s : Siz) (c : Cfg) (x : Stp) (h : Rdy p s c) (he : enB p s c x false) (hk0 : (p.rules.getD x.rule.toNat rul0).kind = 5) (hcor0 : x.process < c.correct) : Spec Tryz.prog 38 [.agg (encV p s c), .agg (encX x)] (Mem.ofL []) (apR c (p.rules.getD x.rule.toNat rul0) x):=by
 have hle:=bigP_le h.big
 have hc:=wide_le h.wide
 obtain ⟨hin, hen⟩:=he
 have hR:=valid_rule h.val (i:=x.rule.toNat) (by omega)
 have hB:=bigP_rule h.big (j:=x.rule.toNat) (by omega)
 have hsn:=h.vc.snl
 have hfa:=h.vc.fal
 have hsta:=h.vc.sta
 have hco : 0 ≤ c.correct ∧ c.correct ≤ 8:=by
  have:=h.vc.cor
  have:=h.sz
  omega
 refine Spec.intro tt_ok mx_ok [] Tryz.func38 rfl (by decide) ?_
 conv=>whnf
 refine boxP rfl ?_
 conv=>whnf
 refine boxP rfl ?_
 conv=>whnf
 refine nI ?_
 generalize p.rules.getD x.rule.toNat rul0 = r at hen hR hB hk0
 have hcor:=hcor0
 have hbr:=bigR_le hB
 have hrd:=hR.read
 have hfit:=hR.fit
 unfold fitB at hfit
 have hse:=hR.send
 conv=>whnf
 refine Spec.news 400 (lmC 5 9 13 17) (memC c) (cfgL c) (cloneL c h.wide) (auto_) rfl outC ?_
 conv=>whnf
 refine nI ?_
 conv=>whnf
 refine rowSetI _ rfl ?_
 conv=>whnf
 have hpl : x.process.toNat < c.states.length:=by omega
 have hpc : ((x.process.toNat : Nat) : Int) = x.process:=by omega
 have k25 : r.kind = 2 ∨ r.kind = 5:=.inr hk0
 obtain ⟨g1, g2, g3, g4⟩:=en_kin hen k25
 have hst : (c.states.set x.process.toNat r.dst).set x.partner.toNat r.pto = stN c r x:=st_of (by simp) fun j hj=>by
  rw [getD_set, getD_set, List.length_set]
  unfold stG
  by_cases e2 : x.partner.toNat = j
  ·rw [if_pos ⟨e2, by omega⟩, if_neg (by omega), if_pos ⟨k25, by omega⟩]
  ·rw [if_neg (fun h=>e2 h.1)]
   by_cases e : x.process.toNat = j
   ·rw [if_pos ⟨e, by omega⟩, if_pos (by omega)]
   ·rw [if_neg (fun h=>e h.1), if_neg (by omega), if_neg (fun h=>e2 (by omega)), if_neg (by omega)]
 repeat' (first | (refine tI ?_; conv=>whnf) | (refine fI ?_; conv=>whnf) | fail)
 refine needI ⟨g1, g2⟩ ?_
 rw [forceK_eq]
 dsimp only
 rw [putD_eq]
 refine ops_store rfl rfl rfl rfl rfl ?_
 rw [hst]
 conv=>whnf
 repeat' ((first|refine nI ?_|refine aI ?_|refine tI ?_|refine fI ?_|fail);conv=>whnf)
 refine WPc.loopF tt_ok mx_ok (fun k : Nat=>k ≤ r.send.length ∧ ∀ j, j < k → (bumpL c.sent (r.send.take (j + 1))).getD (r.send.getD j 0).toNat 0 ≤ 1048576) (fun k=>[(79, .int .i64 (k : Int))]) (fun k=>apM c r (stN c r x) (bumpL c.sent (r.send.take k)) c.faulty) (fun k=>r.send.length - k) 0 ⟨by omega, fun j hj=>by omega⟩ ?_; conv=>whnf
 refine ⟨sI, ?_⟩
 rintro k ⟨hk, ha⟩
 conv=>whnf
 refine cmpI ?_ ?_ <;> (intro g1; conv=>whnf)
 ·have hm:=hse k (by omega)
  have hb:=bumpL_b (r.send.take k) c.sent 1048576 (inR_all h.sent.1) (r.send.getD k 0).toNat
  have htl : (r.send.take k).length ≤ 60:=by rw [List.length_take]; omega
  have hup:=bumpL_up (l:=c.sent) (ms:=r.send) (k:=k) (by omega)
  refine nI ?_
  rw [tN]
  conv=>whnf
  refine nI ?_
  conv=>whnf
  refine aI ?_
  conv=>whnf
  refine nI ?_
  conv=>whnf
  refine rowSetI _ rfl ?_
  rw [← hup]
  conv=>whnf
  refine nI ?_
  conv=>whnf
  refine cmpI ?_ ?_ <;> (intro g2; conv=>whnf)
  ·exact .inr ⟨fun hap=>by unfold apB at hap; rw [if_pos hcor] at hap; have:=hap k (by omega); omega, rfl⟩
  ·repeat' ((first|refine nI ?_|refine aI ?_|refine tI ?_|refine fI ?_|fail);conv=>whnf)
   refine ⟨k + 1, sI, ⟨by omega, fun j hj=>?_⟩, by dsimp only; omega⟩
   by_cases e : j = k
   ·subst e; omega
   ·exact ha j (by omega)
 ·obtain rfl : k = r.send.length:=by omega
  rw [List.take_length]
  have hap : apB c r x:=by unfold apB; rw [if_pos hcor]; exact ha
  by_cases hwr : r.write = -1
  ·repeat' ((first|refine nI ?_|refine aI ?_|refine tI ?_|refine fI ?_|fail);conv=>whnf)
   refine .inl ⟨hap, ?_⟩
   rw [apC_t hcor, if_pos hwr]
   exact ⟨cfg_eq rfl (stN_len _ _ _).symm (bumpL_len _ _).symm rfl rfl rfl, rfl, rfl, rfl, rfl⟩
  ·repeat' ((first|refine nI ?_|refine aI ?_|refine tI ?_|refine fI ?_|fail);conv=>whnf)
   refine .inl ⟨hap, ?_⟩
   rw [apC_t hcor, if_neg hwr]
   exact ⟨cfg_eq rfl (stN_len _ _ _).symm (bumpL_len _ _).symm rfl rfl rfl, rfl, rfl, rfl, rfl⟩
theorem applyV3t (p : Pro) (s : Siz) (c : Cfg) (x : Stp) (h : Rdy p s c) (he : enB p s c x false) (hk0 : (p.rules.getD x.rule.toNat rul0).kind = 3) (hcor0 : x.process < c.correct) : Spec Tryz.prog 38 [.agg (encV p s c), .agg (encX x)] (Mem.ofL []) (apR c (p.rules.getD x.rule.toNat rul0) x):=by
 have hle:=bigP_le h.big
 have hc:=wide_le h.wide
 obtain ⟨hin, hen⟩:=he
 have hR:=valid_rule h.val (i:=x.rule.toNat) (by omega)
 have hB:=bigP_rule h.big (j:=x.rule.toNat) (by omega)
 have hsn:=h.vc.snl
 have hfa:=h.vc.fal
 have hsta:=h.vc.sta
 have hco : 0 ≤ c.correct ∧ c.correct ≤ 8:=by
  have:=h.vc.cor
  have:=h.sz
  omega
 refine Spec.intro tt_ok mx_ok [] Tryz.func38 rfl (by decide) ?_
 conv=>whnf
 refine boxP rfl ?_
 conv=>whnf
 refine boxP rfl ?_
 conv=>whnf
 refine nI ?_
 generalize p.rules.getD x.rule.toNat rul0 = r at hen hR hB hk0
 have hcor:=hcor0
 have hbr:=bigR_le hB
 have hrd:=hR.read
 have hfit:=hR.fit
 unfold fitB at hfit
 have hse:=hR.send
 conv=>whnf
 refine Spec.news 400 (lmC 5 9 13 17) (memC c) (cfgL c) (cloneL c h.wide) (auto_) rfl outC ?_
 conv=>whnf
 refine nI ?_
 conv=>whnf
 refine rowSetI _ rfl ?_
 conv=>whnf
 have hpl : x.process.toNat < c.states.length:=by omega
 have hpc : ((x.process.toNat : Nat) : Int) = x.process:=by omega
 have k3:=hk0
 obtain ⟨hrl, hri⟩:=hR.resp k3
 repeat' ((first|refine nI ?_|refine aI ?_|refine tI ?_|refine fI ?_|fail);conv=>whnf)
 refine WPc.loopF tt_ok mx_ok (fun z : Nat × List Int=>z.1 ≤ c.states.length ∧ z.2.length = c.states.length ∧ ∀ j, j < c.states.length → z.2.getD j 0 = if (j : Int) = x.process then r.dst else if j < z.1 then r.response.getD (c.states.getD j 0).toNat 0 else c.states.getD j 0) (fun z=>[(48, .int .i64 (z.1 : Int))]) (fun z=>apM c r z.2 c.sent c.faulty) (fun z=>c.states.length - z.1) (0, c.states.set x.process.toNat r.dst) ⟨Nat.zero_le _, by simp, fun j hj=>by
  dsimp only
  rw [getD_set]
  by_cases e : x.process.toNat = j
  ·rw [if_pos ⟨e, by omega⟩, if_pos (by omega)]
  ·rw [if_neg (fun h=>e h.1), if_neg (by omega), if_neg (by omega)]⟩ ?_; conv=>whnf
 refine ⟨sI, ?_⟩
 rintro ⟨k, l⟩ ⟨h1, h2, h3⟩
 dsimp only at h1 h2 h3 ⊢
 conv=>whnf
 refine cmpI ?_ ?_ <;> (intro g1; conv=>whnf)
 case' refine_1 =>
  have hy:=hsta k (by omega)
  refine nI ?_
  rw [tN]
  conv=>whnf
  refine cmpI ?_ ?_ <;> (intro g2; conv=>whnf)
  ·refine dR ?_
   conv=>whnf
   refine nI ?_
   conv=>whnf
   refine nI ?_
   conv=>whnf
   refine rowSetI _ rfl ?_
   rw [tN]
   conv=>whnf
   repeat' ((first|refine nI ?_|refine aI ?_|refine tI ?_|refine fI ?_|fail);conv=>whnf)
   refine ⟨(k + 1, l.set k (r.response.getD (c.states.getD k 0).toNat 0)), sI, ⟨by dsimp only; omega, by simpa using h2, fun j hj=>?_⟩, by dsimp only; omega⟩
   dsimp only
   rw [getD_set]
   by_cases e : k = j
   ·subst e; rw [if_pos ⟨rfl, by omega⟩, if_neg (by omega), if_pos (by omega)]
   ·rw [if_neg (fun h=>e h.1), h3 j hj]
    by_cases e2 : (j : Int) = x.process
    ·rw [if_pos e2, if_pos e2]
    ·rw [if_neg e2, if_neg e2]
     by_cases e3 : j < k
     ·rw [if_pos e3, if_pos (by omega)]
     ·rw [if_neg e3, if_neg (by omega)]
  ·repeat' ((first|refine nI ?_|refine aI ?_|refine tI ?_|refine fI ?_|fail);conv=>whnf)
   refine ⟨(k + 1, l), sI, ⟨by dsimp only; omega, h2, fun j hj=>?_⟩, by dsimp only; omega⟩
   rw [h3 j hj]
   dsimp only
   by_cases e2 : (j : Int) = x.process
   ·rw [if_pos e2, if_pos e2]
   ·rw [if_neg e2, if_neg e2]
    by_cases e3 : j < k
    ·rw [if_pos e3, if_pos (by omega)]
    ·rw [if_neg e3, if_neg (by omega)]
 obtain rfl : l = stN c r x:=st_of h2 fun j hj=>by
  rw [h3 j hj]
  unfold stG
  by_cases e2 : (j : Int) = x.process
  ·rw [if_pos e2, if_pos e2]
  ·rw [if_neg e2, if_neg e2, if_pos (by omega), if_neg (by omega), if_pos k3]
 repeat' ((first|refine nI ?_|refine aI ?_|refine tI ?_|refine fI ?_|fail);conv=>whnf)
 refine WPc.loopF tt_ok mx_ok (fun k : Nat=>k ≤ r.send.length ∧ ∀ j, j < k → (bumpL c.sent (r.send.take (j + 1))).getD (r.send.getD j 0).toNat 0 ≤ 1048576) (fun k=>[(79, .int .i64 (k : Int))]) (fun k=>apM c r (stN c r x) (bumpL c.sent (r.send.take k)) c.faulty) (fun k=>r.send.length - k) 0 ⟨by omega, fun j hj=>by omega⟩ ?_; conv=>whnf
 refine ⟨sI, ?_⟩
 rintro k ⟨hk, ha⟩
 conv=>whnf
 refine cmpI ?_ ?_ <;> (intro g1; conv=>whnf)
 ·have hm:=hse k (by omega)
  have hb:=bumpL_b (r.send.take k) c.sent 1048576 (inR_all h.sent.1) (r.send.getD k 0).toNat
  have htl : (r.send.take k).length ≤ 60:=by rw [List.length_take]; omega
  have hup:=bumpL_up (l:=c.sent) (ms:=r.send) (k:=k) (by omega)
  refine nI ?_
  rw [tN]
  conv=>whnf
  refine nI ?_
  conv=>whnf
  refine aI ?_
  conv=>whnf
  refine nI ?_
  conv=>whnf
  refine rowSetI _ rfl ?_
  rw [← hup]
  conv=>whnf
  refine nI ?_
  conv=>whnf
  refine cmpI ?_ ?_ <;> (intro g2; conv=>whnf)
  ·exact .inr ⟨fun hap=>by unfold apB at hap; rw [if_pos hcor] at hap; have:=hap k (by omega); omega, rfl⟩
  ·repeat' ((first|refine nI ?_|refine aI ?_|refine tI ?_|refine fI ?_|fail);conv=>whnf)
   refine ⟨k + 1, sI, ⟨by omega, fun j hj=>?_⟩, by dsimp only; omega⟩
   by_cases e : j = k
   ·subst e; omega
   ·exact ha j (by omega)
 ·obtain rfl : k = r.send.length:=by omega
  rw [List.take_length]
  have hap : apB c r x:=by unfold apB; rw [if_pos hcor]; exact ha
  by_cases hwr : r.write = -1
  ·repeat' ((first|refine nI ?_|refine aI ?_|refine tI ?_|refine fI ?_|fail);conv=>whnf)
   refine .inl ⟨hap, ?_⟩
   rw [apC_t hcor, if_pos hwr]
   exact ⟨cfg_eq rfl (stN_len _ _ _).symm (bumpL_len _ _).symm rfl rfl rfl, rfl, rfl, rfl, rfl⟩
  ·repeat' ((first|refine nI ?_|refine aI ?_|refine tI ?_|refine fI ?_|fail);conv=>whnf)
   refine .inl ⟨hap, ?_⟩
   rw [apC_t hcor, if_neg hwr]
   exact ⟨cfg_eq rfl (stN_len _ _ _).symm (bumpL_len _ _).symm rfl rfl rfl, rfl, rfl, rfl, rfl⟩
theorem applyV1f (p : Pro) (s : Siz) (c : Cfg) (x : Stp) (h : Rdy p s c) (he : enB p s c x false) (hk0 : (p.rules.getD x.rule.toNat rul0).kind = 1 ∨ (p.rules.getD x.rule.toNat rul0).kind = 4) (hcor0 : ¬ x.process < c.correct) : Spec Tryz.prog 38 [.agg (encV p s c), .agg (encX x)] (Mem.ofL []) (apR c (p.rules.getD x.rule.toNat rul0) x):=by
 have hle:=bigP_le h.big
 have hc:=wide_le h.wide
 obtain ⟨hin, hen⟩:=he
 have hR:=valid_rule h.val (i:=x.rule.toNat) (by omega)
 have hB:=bigP_rule h.big (j:=x.rule.toNat) (by omega)
 have hsn:=h.vc.snl
 have hfa:=h.vc.fal
 have hsta:=h.vc.sta
 have hco : 0 ≤ c.correct ∧ c.correct ≤ 8:=by
  have:=h.vc.cor
  have:=h.sz
  omega
 refine Spec.intro tt_ok mx_ok [] Tryz.func38 rfl (by decide) ?_
 conv=>whnf
 refine boxP rfl ?_
 conv=>whnf
 refine boxP rfl ?_
 conv=>whnf
 refine nI ?_
 generalize p.rules.getD x.rule.toNat rul0 = r at hen hR hB hk0
 have hcor:=hcor0
 have hbr:=bigR_le hB
 have hrd:=hR.read
 have hfit:=hR.fit
 unfold fitB at hfit
 have hse:=hR.send
 conv=>whnf
 refine Spec.news 400 (lmC 5 9 13 17) (memC c) (cfgL c) (cloneL c h.wide) (auto_) rfl outC ?_
 conv=>whnf
 refine nI ?_
 conv=>whnf
 refine rowSetI _ rfl ?_
 conv=>whnf
 have hpl : x.process.toNat < c.states.length:=by omega
 have hpc : ((x.process.toNat : Nat) : Int) = x.process:=by omega
 have k14:=hk0
 have hst : c.states.set x.process.toNat r.dst = stN c r x:=st_of (by simp) fun j hj=>by
  rw [getD_set]
  unfold stG
  by_cases e : x.process.toNat = j
  ·rw [if_pos ⟨e, by omega⟩, if_pos (by omega)]
  ·rw [if_neg (fun h=>e h.1), if_neg (by omega), if_neg (by omega), if_neg (by omega)]
 rw [hst]
 repeat' ((first|refine nI ?_|refine aI ?_|refine tI ?_|refine fI ?_|fail);conv=>whnf)
 repeat' ((first|refine nI ?_|refine aI ?_|refine tI ?_|refine fI ?_|fail);conv=>whnf)
 refine WPc.loopF tt_ok mx_ok (fun k : Nat=>k ≤ r.send.length ∧ ∀ j, j < k → (bumpL c.faulty (r.send.take (j + 1))).getD (r.send.getD j 0).toNat 0 ≤ 1048576) (fun k=>[(79, .int .i64 (k : Int))]) (fun k=>apM c r (stN c r x) c.sent (bumpL c.faulty (r.send.take k))) (fun k=>r.send.length - k) 0 ⟨by omega, fun j hj=>by omega⟩ ?_; conv=>whnf
 refine ⟨sI, ?_⟩
 rintro k ⟨hk, ha⟩
 conv=>whnf
 refine cmpI ?_ ?_ <;> (intro g1; conv=>whnf)
 ·have hm:=hse k (by omega)
  have hb:=bumpL_b (r.send.take k) c.faulty 1048576 (inR_all h.sent.2) (r.send.getD k 0).toNat
  have htl : (r.send.take k).length ≤ 60:=by rw [List.length_take]; omega
  have hup:=bumpL_up (l:=c.faulty) (ms:=r.send) (k:=k) (by omega)
  refine nI ?_
  rw [tN]
  conv=>whnf
  refine nI ?_
  conv=>whnf
  refine aI ?_
  conv=>whnf
  refine nI ?_
  conv=>whnf
  refine rowSetI _ rfl ?_
  rw [← hup]
  conv=>whnf
  refine nI ?_
  conv=>whnf
  refine cmpI ?_ ?_ <;> (intro g2; conv=>whnf)
  ·exact .inr ⟨fun hap=>by unfold apB at hap; rw [if_neg hcor] at hap; have:=hap k (by omega); omega, rfl⟩
  ·repeat' ((first|refine nI ?_|refine aI ?_|refine tI ?_|refine fI ?_|fail);conv=>whnf)
   refine ⟨k + 1, sI, ⟨by omega, fun j hj=>?_⟩, by dsimp only; omega⟩
   by_cases e : j = k
   ·subst e; omega
   ·exact ha j (by omega)
 ·obtain rfl : k = r.send.length:=by omega
  rw [List.take_length]
  have hap : apB c r x:=by unfold apB; rw [if_neg hcor]; exact ha
  by_cases hwr : r.write = -1
  ·repeat' ((first|refine nI ?_|refine aI ?_|refine tI ?_|refine fI ?_|fail);conv=>whnf)
   refine .inl ⟨hap, ?_⟩
   rw [apC_f hcor, if_pos hwr]
   exact ⟨cfg_eq rfl (stN_len _ _ _).symm rfl (bumpL_len _ _).symm rfl rfl, rfl, rfl, rfl, rfl⟩
  ·repeat' ((first|refine nI ?_|refine aI ?_|refine tI ?_|refine fI ?_|fail);conv=>whnf)
   refine .inl ⟨hap, ?_⟩
   rw [apC_f hcor, if_neg hwr]
   exact ⟨cfg_eq rfl (stN_len _ _ _).symm rfl (bumpL_len _ _).symm rfl rfl, rfl, rfl, rfl, rfl⟩
theorem applyV2f (p : Pro) (s : Siz) (c : Cfg) (x : Stp) (h : Rdy p s c) (he : enB p s c x false) (hk0 : (p.rules.getD x.rule.toNat rul0).kind = 2) (hcor0 : ¬ x.process < c.correct) : Spec Tryz.prog 38 [.agg (encV p s c), .agg (encX x)] (Mem.ofL []) (apR c (p.rules.getD x.rule.toNat rul0) x):=by
 have hle:=bigP_le h.big
 have hc:=wide_le h.wide
 obtain ⟨hin, hen⟩:=he
 have hR:=valid_rule h.val (i:=x.rule.toNat) (by omega)
 have hB:=bigP_rule h.big (j:=x.rule.toNat) (by omega)
 have hsn:=h.vc.snl
 have hfa:=h.vc.fal
 have hsta:=h.vc.sta
 have hco : 0 ≤ c.correct ∧ c.correct ≤ 8:=by
  have:=h.vc.cor
  have:=h.sz
  omega
 refine Spec.intro tt_ok mx_ok [] Tryz.func38 rfl (by decide) ?_
 conv=>whnf
 refine boxP rfl ?_
 conv=>whnf
 refine boxP rfl ?_
 conv=>whnf
 refine nI ?_
 generalize p.rules.getD x.rule.toNat rul0 = r at hen hR hB hk0
 have hcor:=hcor0
 have hbr:=bigR_le hB
 have hrd:=hR.read
 have hfit:=hR.fit
 unfold fitB at hfit
 have hse:=hR.send
 conv=>whnf
 refine Spec.news 400 (lmC 5 9 13 17) (memC c) (cfgL c) (cloneL c h.wide) (auto_) rfl outC ?_
 conv=>whnf
 refine nI ?_
 conv=>whnf
 refine rowSetI _ rfl ?_
 conv=>whnf
 have hpl : x.process.toNat < c.states.length:=by omega
 have hpc : ((x.process.toNat : Nat) : Int) = x.process:=by omega
 have k25 : r.kind = 2 ∨ r.kind = 5:=.inl hk0
 obtain ⟨g1, g2, g3, g4⟩:=en_kin hen k25
 have hst : (c.states.set x.process.toNat r.dst).set x.partner.toNat r.pto = stN c r x:=st_of (by simp) fun j hj=>by
  rw [getD_set, getD_set, List.length_set]
  unfold stG
  by_cases e2 : x.partner.toNat = j
  ·rw [if_pos ⟨e2, by omega⟩, if_neg (by omega), if_pos ⟨k25, by omega⟩]
  ·rw [if_neg (fun h=>e2 h.1)]
   by_cases e : x.process.toNat = j
   ·rw [if_pos ⟨e, by omega⟩, if_pos (by omega)]
   ·rw [if_neg (fun h=>e h.1), if_neg (by omega), if_neg (fun h=>e2 (by omega)), if_neg (by omega)]
 repeat' (first | (refine tI ?_; conv=>whnf) | (refine fI ?_; conv=>whnf) | fail)
 refine needI ⟨g1, g2⟩ ?_
 rw [forceK_eq]
 dsimp only
 rw [putD_eq]
 refine ops_store rfl rfl rfl rfl rfl ?_
 rw [hst]
 conv=>whnf
 repeat' ((first|refine nI ?_|refine aI ?_|refine tI ?_|refine fI ?_|fail);conv=>whnf)
 refine WPc.loopF tt_ok mx_ok (fun k : Nat=>k ≤ r.send.length ∧ ∀ j, j < k → (bumpL c.faulty (r.send.take (j + 1))).getD (r.send.getD j 0).toNat 0 ≤ 1048576) (fun k=>[(79, .int .i64 (k : Int))]) (fun k=>apM c r (stN c r x) c.sent (bumpL c.faulty (r.send.take k))) (fun k=>r.send.length - k) 0 ⟨by omega, fun j hj=>by omega⟩ ?_; conv=>whnf
 refine ⟨sI, ?_⟩
 rintro k ⟨hk, ha⟩
 conv=>whnf
 refine cmpI ?_ ?_ <;> (intro g1; conv=>whnf)
 ·have hm:=hse k (by omega)
  have hb:=bumpL_b (r.send.take k) c.faulty 1048576 (inR_all h.sent.2) (r.send.getD k 0).toNat
  have htl : (r.send.take k).length ≤ 60:=by rw [List.length_take]; omega
  have hup:=bumpL_up (l:=c.faulty) (ms:=r.send) (k:=k) (by omega)
  refine nI ?_
  rw [tN]
  conv=>whnf
  refine nI ?_
  conv=>whnf
  refine aI ?_
  conv=>whnf
  refine nI ?_
  conv=>whnf
  refine rowSetI _ rfl ?_
  rw [← hup]
  conv=>whnf
  refine nI ?_
  conv=>whnf
  refine cmpI ?_ ?_ <;> (intro g2; conv=>whnf)
  ·exact .inr ⟨fun hap=>by unfold apB at hap; rw [if_neg hcor] at hap; have:=hap k (by omega); omega, rfl⟩
  ·repeat' ((first|refine nI ?_|refine aI ?_|refine tI ?_|refine fI ?_|fail);conv=>whnf)
   refine ⟨k + 1, sI, ⟨by omega, fun j hj=>?_⟩, by dsimp only; omega⟩
   by_cases e : j = k
   ·subst e; omega
   ·exact ha j (by omega)
 ·obtain rfl : k = r.send.length:=by omega
  rw [List.take_length]
  have hap : apB c r x:=by unfold apB; rw [if_neg hcor]; exact ha
  by_cases hwr : r.write = -1
  ·repeat' ((first|refine nI ?_|refine aI ?_|refine tI ?_|refine fI ?_|fail);conv=>whnf)
   refine .inl ⟨hap, ?_⟩
   rw [apC_f hcor, if_pos hwr]
   exact ⟨cfg_eq rfl (stN_len _ _ _).symm rfl (bumpL_len _ _).symm rfl rfl, rfl, rfl, rfl, rfl⟩
  ·repeat' ((first|refine nI ?_|refine aI ?_|refine tI ?_|refine fI ?_|fail);conv=>whnf)
   refine .inl ⟨hap, ?_⟩
   rw [apC_f hcor, if_neg hwr]
   exact ⟨cfg_eq rfl (stN_len _ _ _).symm rfl (bumpL_len _ _).symm rfl rfl, rfl, rfl, rfl, rfl⟩
theorem applyV5f (p : Pro) (s : Siz) (c : Cfg) (x : Stp) (h : Rdy p s c) (he : enB p s c x false) (hk0 : (p.rules.getD x.rule.toNat rul0).kind = 5) (hcor0 : ¬ x.process < c.correct) : Spec Tryz.prog 38 [.agg (encV p s c), .agg (encX x)] (Mem.ofL []) (apR c (p.rules.getD x.rule.toNat rul0) x):=by
 have hle:=bigP_le h.big
 have hc:=wide_le h.wide
 obtain ⟨hin, hen⟩:=he
 have hR:=valid_rule h.val (i:=x.rule.toNat) (by omega)
 have hB:=bigP_rule h.big (j:=x.rule.toNat) (by omega)
 have hsn:=h.vc.snl
 have hfa:=h.vc.fal
 have hsta:=h.vc.sta
 have hco : 0 ≤ c.correct ∧ c.correct ≤ 8:=by
  have:=h.vc.cor
  have:=h.sz
  omega
 refine Spec.intro tt_ok mx_ok [] Tryz.func38 rfl (by decide) ?_
 conv=>whnf
 refine boxP rfl ?_
 conv=>whnf
 refine boxP rfl ?_
 conv=>whnf
 refine nI ?_
 generalize p.rules.getD x.rule.toNat rul0 = r at hen hR hB hk0
 have hcor:=hcor0
 have hbr:=bigR_le hB
 have hrd:=hR.read
 have hfit:=hR.fit
 unfold fitB at hfit
 have hse:=hR.send
 conv=>whnf
 refine Spec.news 400 (lmC 5 9 13 17) (memC c) (cfgL c) (cloneL c h.wide) (auto_) rfl outC ?_
 conv=>whnf
 refine nI ?_
 conv=>whnf
 refine rowSetI _ rfl ?_
 conv=>whnf
 have hpl : x.process.toNat < c.states.length:=by omega
 have hpc : ((x.process.toNat : Nat) : Int) = x.process:=by omega
 have k25 : r.kind = 2 ∨ r.kind = 5:=.inr hk0
 obtain ⟨g1, g2, g3, g4⟩:=en_kin hen k25
 have hst : (c.states.set x.process.toNat r.dst).set x.partner.toNat r.pto = stN c r x:=st_of (by simp) fun j hj=>by
  rw [getD_set, getD_set, List.length_set]
  unfold stG
  by_cases e2 : x.partner.toNat = j
  ·rw [if_pos ⟨e2, by omega⟩, if_neg (by omega), if_pos ⟨k25, by omega⟩]
  ·rw [if_neg (fun h=>e2 h.1)]
   by_cases e : x.process.toNat = j
   ·rw [if_pos ⟨e, by omega⟩, if_pos (by omega)]
   ·rw [if_neg (fun h=>e h.1), if_neg (by omega), if_neg (fun h=>e2 (by omega)), if_neg (by omega)]
 repeat' (first | (refine tI ?_; conv=>whnf) | (refine fI ?_; conv=>whnf) | fail)
 refine needI ⟨g1, g2⟩ ?_
 rw [forceK_eq]
 dsimp only
 rw [putD_eq]
 refine ops_store rfl rfl rfl rfl rfl ?_
 rw [hst]
 conv=>whnf
 repeat' ((first|refine nI ?_|refine aI ?_|refine tI ?_|refine fI ?_|fail);conv=>whnf)
 refine WPc.loopF tt_ok mx_ok (fun k : Nat=>k ≤ r.send.length ∧ ∀ j, j < k → (bumpL c.faulty (r.send.take (j + 1))).getD (r.send.getD j 0).toNat 0 ≤ 1048576) (fun k=>[(79, .int .i64 (k : Int))]) (fun k=>apM c r (stN c r x) c.sent (bumpL c.faulty (r.send.take k))) (fun k=>r.send.length - k) 0 ⟨by omega, fun j hj=>by omega⟩ ?_; conv=>whnf
 refine ⟨sI, ?_⟩
 rintro k ⟨hk, ha⟩
 conv=>whnf
 refine cmpI ?_ ?_ <;> (intro g1; conv=>whnf)
 ·have hm:=hse k (by omega)
  have hb:=bumpL_b (r.send.take k) c.faulty 1048576 (inR_all h.sent.2) (r.send.getD k 0).toNat
  have htl : (r.send.take k).length ≤ 60:=by rw [List.length_take]; omega
  have hup:=bumpL_up (l:=c.faulty) (ms:=r.send) (k:=k) (by omega)
  refine nI ?_
  rw [tN]
  conv=>whnf
  refine nI ?_
  conv=>whnf
  refine aI ?_
  conv=>whnf
  refine nI ?_
  conv=>whnf
  refine rowSetI _ rfl ?_
  rw [← hup]
  conv=>whnf
  refine nI ?_
  conv=>whnf
  refine cmpI ?_ ?_ <;> (intro g2; conv=>whnf)
  ·exact .inr ⟨fun hap=>by unfold apB at hap; rw [if_neg hcor] at hap; have:=hap k (by omega); omega, rfl⟩
  ·repeat' ((first|refine nI ?_|refine aI ?_|refine tI ?_|refine fI ?_|fail);conv=>whnf)
   refine ⟨k + 1, sI, ⟨by omega, fun j hj=>?_⟩, by dsimp only; omega⟩
   by_cases e : j = k
   ·subst e; omega
   ·exact ha j (by omega)
 ·obtain rfl : k = r.send.length:=by omega
  rw [List.take_length]
  have hap : apB c r x:=by unfold apB; rw [if_neg hcor]; exact ha
  by_cases hwr : r.write = -1
  ·repeat' ((first|refine nI ?_|refine aI ?_|refine tI ?_|refine fI ?_|fail);conv=>whnf)
   refine .inl ⟨hap, ?_⟩
   rw [apC_f hcor, if_pos hwr]
   exact ⟨cfg_eq rfl (stN_len _ _ _).symm rfl (bumpL_len _ _).symm rfl rfl, rfl, rfl, rfl, rfl⟩
  ·repeat' ((first|refine nI ?_|refine aI ?_|refine tI ?_|refine fI ?_|fail);conv=>whnf)
   refine .inl ⟨hap, ?_⟩
   rw [apC_f hcor, if_neg hwr]
   exact ⟨cfg_eq rfl (stN_len _ _ _).symm rfl (bumpL_len _ _).symm rfl rfl, rfl, rfl, rfl, rfl⟩
theorem applyV3f (p : Pro) (s : Siz) (c : Cfg) (x : Stp) (h : Rdy p s c) (he : enB p s c x false) (hk0 : (p.rules.getD x.rule.toNat rul0).kind = 3) (hcor0 : ¬ x.process < c.correct) : Spec Tryz.prog 38 [.agg (encV p s c), .agg (encX x)] (Mem.ofL []) (apR c (p.rules.getD x.rule.toNat rul0) x):=by
 have hle:=bigP_le h.big
 have hc:=wide_le h.wide
 obtain ⟨hin, hen⟩:=he
 have hR:=valid_rule h.val (i:=x.rule.toNat) (by omega)
 have hB:=bigP_rule h.big (j:=x.rule.toNat) (by omega)
 have hsn:=h.vc.snl
 have hfa:=h.vc.fal
 have hsta:=h.vc.sta
 have hco : 0 ≤ c.correct ∧ c.correct ≤ 8:=by
  have:=h.vc.cor
  have:=h.sz
  omega
 refine Spec.intro tt_ok mx_ok [] Tryz.func38 rfl (by decide) ?_
 conv=>whnf
 refine boxP rfl ?_
 conv=>whnf
 refine boxP rfl ?_
 conv=>whnf
 refine nI ?_
 generalize p.rules.getD x.rule.toNat rul0 = r at hen hR hB hk0
 have hcor:=hcor0
 have hbr:=bigR_le hB
 have hrd:=hR.read
 have hfit:=hR.fit
 unfold fitB at hfit
 have hse:=hR.send
 conv=>whnf
 refine Spec.news 400 (lmC 5 9 13 17) (memC c) (cfgL c) (cloneL c h.wide) (auto_) rfl outC ?_
 conv=>whnf
 refine nI ?_
 conv=>whnf
 refine rowSetI _ rfl ?_
 conv=>whnf
 have hpl : x.process.toNat < c.states.length:=by omega
 have hpc : ((x.process.toNat : Nat) : Int) = x.process:=by omega
 have k3:=hk0
 obtain ⟨hrl, hri⟩:=hR.resp k3
 repeat' ((first|refine nI ?_|refine aI ?_|refine tI ?_|refine fI ?_|fail);conv=>whnf)
 refine WPc.loopF tt_ok mx_ok (fun z : Nat × List Int=>z.1 ≤ c.states.length ∧ z.2.length = c.states.length ∧ ∀ j, j < c.states.length → z.2.getD j 0 = if (j : Int) = x.process then r.dst else if j < z.1 then r.response.getD (c.states.getD j 0).toNat 0 else c.states.getD j 0) (fun z=>[(48, .int .i64 (z.1 : Int))]) (fun z=>apM c r z.2 c.sent c.faulty) (fun z=>c.states.length - z.1) (0, c.states.set x.process.toNat r.dst) ⟨Nat.zero_le _, by simp, fun j hj=>by
  dsimp only
  rw [getD_set]
  by_cases e : x.process.toNat = j
  ·rw [if_pos ⟨e, by omega⟩, if_pos (by omega)]
  ·rw [if_neg (fun h=>e h.1), if_neg (by omega), if_neg (by omega)]⟩ ?_; conv=>whnf
 refine ⟨sI, ?_⟩
 rintro ⟨k, l⟩ ⟨h1, h2, h3⟩
 dsimp only at h1 h2 h3 ⊢
 conv=>whnf
 refine cmpI ?_ ?_ <;> (intro g1; conv=>whnf)
 case' refine_1 =>
  have hy:=hsta k (by omega)
  refine nI ?_
  rw [tN]
  conv=>whnf
  refine cmpI ?_ ?_ <;> (intro g2; conv=>whnf)
  ·refine dR ?_
   conv=>whnf
   refine nI ?_
   conv=>whnf
   refine nI ?_
   conv=>whnf
   refine rowSetI _ rfl ?_
   rw [tN]
   conv=>whnf
   repeat' ((first|refine nI ?_|refine aI ?_|refine tI ?_|refine fI ?_|fail);conv=>whnf)
   refine ⟨(k + 1, l.set k (r.response.getD (c.states.getD k 0).toNat 0)), sI, ⟨by dsimp only; omega, by simpa using h2, fun j hj=>?_⟩, by dsimp only; omega⟩
   dsimp only
   rw [getD_set]
   by_cases e : k = j
   ·subst e; rw [if_pos ⟨rfl, by omega⟩, if_neg (by omega), if_pos (by omega)]
   ·rw [if_neg (fun h=>e h.1), h3 j hj]
    by_cases e2 : (j : Int) = x.process
    ·rw [if_pos e2, if_pos e2]
    ·rw [if_neg e2, if_neg e2]
     by_cases e3 : j < k
     ·rw [if_pos e3, if_pos (by omega)]
     ·rw [if_neg e3, if_neg (by omega)]
  ·repeat' ((first|refine nI ?_|refine aI ?_|refine tI ?_|refine fI ?_|fail);conv=>whnf)
   refine ⟨(k + 1, l), sI, ⟨by dsimp only; omega, h2, fun j hj=>?_⟩, by dsimp only; omega⟩
   rw [h3 j hj]
   dsimp only
   by_cases e2 : (j : Int) = x.process
   ·rw [if_pos e2, if_pos e2]
   ·rw [if_neg e2, if_neg e2]
    by_cases e3 : j < k
    ·rw [if_pos e3, if_pos (by omega)]
    ·rw [if_neg e3, if_neg (by omega)]
 obtain rfl : l = stN c r x:=st_of h2 fun j hj=>by
  rw [h3 j hj]
  unfold stG
  by_cases e2 : (j : Int) = x.process
  ·rw [if_pos e2, if_pos e2]
  ·rw [if_neg e2, if_neg e2, if_pos (by omega), if_neg (by omega), if_pos k3]
 repeat' ((first|refine nI ?_|refine aI ?_|refine tI ?_|refine fI ?_|fail);conv=>whnf)
 refine WPc.loopF tt_ok mx_ok (fun k : Nat=>k ≤ r.send.length ∧ ∀ j, j < k → (bumpL c.faulty (r.send.take (j + 1))).getD (r.send.getD j 0).toNat 0 ≤ 1048576) (fun k=>[(79, .int .i64 (k : Int))]) (fun k=>apM c r (stN c r x) c.sent (bumpL c.faulty (r.send.take k))) (fun k=>r.send.length - k) 0 ⟨by omega, fun j hj=>by omega⟩ ?_; conv=>whnf
 refine ⟨sI, ?_⟩
 rintro k ⟨hk, ha⟩
 conv=>whnf
 refine cmpI ?_ ?_ <;> (intro g1; conv=>whnf)
 ·have hm:=hse k (by omega)
  have hb:=bumpL_b (r.send.take k) c.faulty 1048576 (inR_all h.sent.2) (r.send.getD k 0).toNat
  have htl : (r.send.take k).length ≤ 60:=by rw [List.length_take]; omega
  have hup:=bumpL_up (l:=c.faulty) (ms:=r.send) (k:=k) (by omega)
  refine nI ?_
  rw [tN]
  conv=>whnf
  refine nI ?_
  conv=>whnf
  refine aI ?_
  conv=>whnf
  refine nI ?_
  conv=>whnf
  refine rowSetI _ rfl ?_
  rw [← hup]
  conv=>whnf
  refine nI ?_
  conv=>whnf
  refine cmpI ?_ ?_ <;> (intro g2; conv=>whnf)
  ·exact .inr ⟨fun hap=>by unfold apB at hap; rw [if_neg hcor] at hap; have:=hap k (by omega); omega, rfl⟩
  ·repeat' ((first|refine nI ?_|refine aI ?_|refine tI ?_|refine fI ?_|fail);conv=>whnf)
   refine ⟨k + 1, sI, ⟨by omega, fun j hj=>?_⟩, by dsimp only; omega⟩
   by_cases e : j = k
   ·subst e; omega
   ·exact ha j (by omega)
 ·obtain rfl : k = r.send.length:=by omega
  rw [List.take_length]
  have hap : apB c r x:=by unfold apB; rw [if_neg hcor]; exact ha
  by_cases hwr : r.write = -1
  ·repeat' ((first|refine nI ?_|refine aI ?_|refine tI ?_|refine fI ?_|fail);conv=>whnf)
   refine .inl ⟨hap, ?_⟩
   rw [apC_f hcor, if_pos hwr]
   exact ⟨cfg_eq rfl (stN_len _ _ _).symm rfl (bumpL_len _ _).symm rfl rfl, rfl, rfl, rfl, rfl⟩
  ·repeat' ((first|refine nI ?_|refine aI ?_|refine tI ?_|refine fI ?_|fail);conv=>whnf)
   refine .inl ⟨hap, ?_⟩
   rw [apC_f hcor, if_neg hwr]
   exact ⟨cfg_eq rfl (stN_len _ _ _).symm rfl (bumpL_len _ _).symm rfl rfl, rfl, rfl, rfl, rfl⟩
theorem applyV (p : Pro) (s : Siz) (c : Cfg) (x : Stp) (h : Rdy p s c) (he : enB p s c x false) : Spec Tryz.prog 38 [.agg (encV p s c), .agg (encX x)] (Mem.ofL []) (apR c (p.rules.getD x.rule.toNat rul0) x):=by
 have hfit:=(valid_rule h.val (i:=x.rule.toNat) (by have:=he.1; omega)).fit
 unfold fitB at hfit
 have hcase : ((p.rules.getD x.rule.toNat rul0).kind = 1 ∨ (p.rules.getD x.rule.toNat rul0).kind = 4) ∨ (p.rules.getD x.rule.toNat rul0).kind = 2 ∨ (p.rules.getD x.rule.toNat rul0).kind = 5 ∨ (p.rules.getD x.rule.toNat rul0).kind = 3:=by omega
 by_cases hcor : x.process < c.correct
 ·rcases hcase with k | k | k | k
  ·exact applyV1t p s c x h he k hcor
  ·exact applyV2t p s c x h he k hcor
  ·exact applyV5t p s c x h he k hcor
  ·exact applyV3t p s c x h he k hcor
 ·rcases hcase with k | k | k | k
  ·exact applyV1f p s c x h he k hcor
  ·exact applyV2f p s c x h he k hcor
  ·exact applyV5f p s c x h he k hcor
  ·exact applyV3f p s c x h he k hcor
def apM2 (c : Cfg) (r : Rul) (v : Int) (st se fa : List Int) : List (Nat × Blk):=[(6, bxN), (8, bxR r), (9, bxC c v), (1001, rowN c.shape), (1002, rowN st), (1003, rowN se), (1004, rowN fa)]
theorem snd_up {l ms : List Int} {k : Nat} (ha : ∀ j, j < k → (bumpL l (ms.take (j + 1))).getD (ms.getD j 0).toNat 0 ≤ 1048576) (h : (bumpL l (ms.take (k + 1))).getD (ms.getD k 0).toNat 0 ≤ 1048576) : ∀ j, j < k + 1 → (bumpL l (ms.take (j + 1))).getD (ms.getD j 0).toNat 0 ≤ 1048576:=fun j hj=>by
 by_cases e : j = k
 ·subst e; exact h
 ·exact ha j (by omega)
end Go.Proofs.YtkanoljhphmdcaaGreatDoor
