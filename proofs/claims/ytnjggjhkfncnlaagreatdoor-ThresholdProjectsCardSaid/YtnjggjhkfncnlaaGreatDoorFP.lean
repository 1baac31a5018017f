import Derived.Test.YtnjggjhkfncnlaaGreatDoorMN
import Derived.Test.YtnjggjhkfncnlaaGreatDoorM7
set_option linter.unusedVariables false
set_option linter.unusedSimpArgs false
namespace Go.Proofs.YtnjggjhkfncnlaaGreatDoor
set_option maxRecDepth 100000
set_option maxHeartbeats 16000000
def cfgN : List AV:=[.nilsl, .nilsl, .int .i64 0, .nilsl, .nilsl, .int .i64 0]
def apR (c : Cfg) (r : Rul) (x : Stp) : AV → Mem → Prop:=fun u M=>(apB c r x ∧ isT 1001 1002 1003 1004 (apC c r x) 0 u M) ∨ (¬ apB c r x ∧ u = .tup [.agg cfgN, .int .i64 4])
def bxC (c : Cfg) (v : Int) : Blk:=.box 36 [.row 1001 c.shape.length 1, .row 1002 c.states.length 1, .int .i64 c.correct, .row 1003 c.sent.length 1, .row 1004 c.faulty.length 1, .int .i64 v]
def bxN : Blk:=.box 36 cfgN
def bxR (r : Rul) : Blk:=.box 143 (encR r)
def apM (c : Cfg) (r : Rul) (st se fa : List Int) : List (Nat × Blk):=[(4, bxN), (6, bxR r), (7, bxC c c.value), (1001, rowN c.shape), (1002, rowN st), (1003, rowN se), (1004, rowN fa)]
theorem cfg_eq {a b d e : Nat} {c : Cfg} {n1 n2 n3 n4 : Nat} {k v : Int} (h1 : n1 = c.shape.length) (h2 : n2 = c.states.length) (h3 : n3 = c.sent.length) (h4 : n4 = c.faulty.length) (h5 : k = c.correct) (h6 : v = c.value) :
  AV.tup [.agg [.row a n1 1, .row b n2 1, .int .i64 k, .row d n3 1, .row e n4 1, .int .i64 v], .int .i64 0] = .tup [cfgA a b d e c, .int .i64 0]:=by
 subst h1; subst h2; subst h3; subst h4; subst h5; subst h6; rfl
theorem apC_t {c : Cfg} {r : Rul} {x : Stp} (h : x.process < c.correct) : apC c r x = ⟨c.shape, stN c r x, c.correct, bumpL c.sent r.send, c.faulty, if r.write = -1 then c.value else r.write⟩:=by
 unfold apC; rw [if_pos h, if_pos h]
theorem apC_f {c : Cfg} {r : Rul} {x : Stp} (h : ¬ x.process < c.correct) : apC c r x = ⟨c.shape, stN c r x, c.correct, c.sent, bumpL c.faulty r.send, if r.write = -1 then c.value else r.write⟩:=by
 unfold apC; rw [if_neg h, if_neg h]
theorem applyV1t (p : Pro) (s : Siz) (c : Cfg) (x : Stp) (h : Rdy p s c) (he : enB p s c x false) (hk0 : (p.rules.getD x.rule.toNat rul0).kind = 1 ∨ (p.rules.getD x.rule.toNat rul0).kind = 4) (hcor0 : x.process < c.correct) : Spec Tryz.prog 124 [.agg (encV p s c), .agg (encX x)] (Mem.ofL []) (apR c (p.rules.getD x.rule.toNat rul0) x):=by
 have hle:=bigP_le h.big
 have hc:=wide_le h.wide
 obtain ⟨hin, hen⟩:=he
 have hR:=valid_rule h.val (i:=x.rule.toNat) (by omega)
 have hB:=bigP_rule h.big (j:=x.rule.toNat) (by omega)
 have hsn:=h.vc.snl
 have hfa:=h.vc.fal
 have hsta:=h.vc.sta
 have hco : 0 ≤ c.correct ∧ c.correct ≤ 8:=by
  have:=h.vc.cor
  have:=h.sz
  omega
 refine Spec.intro tt_ok mx_ok [] Tryz.func124 rfl (by decide) ?_
 conv=>whnf
 refine boxP rfl ?_
 conv=>whnf
 refine boxP rfl ?_
 conv=>whnf
 refine nI ?_
 generalize p.rules.getD x.rule.toNat rul0 = r at hen hR hB hk0
 have hcor:=hcor0
 have hbr:=bigR_le hB
 have hrd:=hR.read
 have hfit:=hR.fit
 unfold fitB at hfit
 have hse:=hR.send
 conv=>whnf
 refine Spec.news 400 (lmC 5 9 13 17) (memC c) (cfgL c) (cloneL c h.wide) (auto_) rfl outC ?_
 conv=>whnf
 refine nI ?_
 conv=>whnf
 refine rowSetI _ rfl ?_
 conv=>whnf
 have hpl : x.process.toNat < c.states.length:=by omega
 have hpc : ((x.process.toNat : Nat) : Int) = x.process:=by omega
 have k14:=hk0
 have hst : c.states.set x.process.toNat r.dst = stN c r x:=st_of (by simp) fun j hj=>by
  rw [getD_set]
  unfold stG
  by_cases e : x.process.toNat = j
  ·rw [if_pos ⟨e, by omega⟩, if_pos (by omega)]
  ·rw [if_neg (fun h=>e h.1), if_neg (by omega), if_neg (by omega), if_neg (by omega)]
 rw [hst]
 repeat' ((first|refine nI ?_|refine aI ?_|refine tI ?_|refine fI ?_|fail);conv=>whnf)
 repeat' ((first|refine nI ?_|refine aI ?_|refine tI ?_|refine fI ?_|fail);conv=>whnf)
 refine WPc.loopF tt_ok mx_ok (fun k : Nat=>k ≤ r.send.length ∧ ∀ j, j < k → (bumpL c.sent (r.send.take (j + 1))).getD (r.send.getD j 0).toNat 0 ≤ 1048576) (fun k=>[(79, .int .i64 (k : Int))]) (fun k=>apM c r (stN c r x) (bumpL c.sent (r.send.take k)) c.faulty) (fun k=>r.send.length - k) 0 ⟨by omega, fun j hj=>by omega⟩ ?_; conv=>whnf
 refine ⟨sI, ?_⟩
 rintro k ⟨hk, ha⟩
 conv=>whnf
 refine cmpI ?_ ?_ <;> (intro g1; conv=>whnf)
 ·have hm:=hse k (by omega)
  have hb:=bumpL_b (r.send.take k) c.sent 1048576 (inR_all h.sent.1) (r.send.getD k 0).toNat
  have htl : (r.send.take k).length ≤ 60:=by rw [List.length_take]; omega
  have hup:=bumpL_up (l:=c.sent) (ms:=r.send) (k:=k) (by omega)
  refine nI ?_
  rw [tN]
  conv=>whnf
  refine nI ?_
  conv=>whnf
  refine aI ?_
  conv=>whnf
  refine nI ?_
  conv=>whnf
  refine rowSetI _ rfl ?_
  rw [← hup]
  conv=>whnf
  refine nI ?_
  conv=>whnf
  refine cmpI ?_ ?_ <;> (intro g2; conv=>whnf)
  ·exact .inr ⟨fun hap=>by unfold apB at hap; rw [if_pos hcor] at hap; have:=hap k (by omega); omega, rfl⟩
  ·repeat' ((first|refine nI ?_|refine aI ?_|refine tI ?_|refine fI ?_|fail);conv=>whnf)
   refine ⟨k + 1, sI, ⟨by omega, fun j hj=>?_⟩, by dsimp only; omega⟩
   by_cases e : j = k
   ·subst e; omega
   ·exact ha j (by omega)
 ·obtain rfl : k = r.send.length:=by omega
  rw [List.take_length]
  have hap : apB c r x:=by unfold apB; rw [if_pos hcor]; exact ha
  by_cases hwr : r.write = -1
  ·repeat' ((first|refine nI ?_|refine aI ?_|refine tI ?_|refine fI ?_|fail);conv=>whnf)
   refine .inl ⟨hap, ?_⟩
   rw [apC_t hcor, if_pos hwr]
   exact ⟨cfg_eq rfl (stN_len _ _ _).symm (bumpL_len _ _).symm rfl rfl rfl, rfl, rfl, rfl, rfl⟩
  ·repeat' ((first|refine nI ?_|refine aI ?_|refine tI ?_|refine fI ?_|fail);conv=>whnf)
   refine .inl ⟨hap, ?_⟩
   rw [apC_t hcor, if_neg hwr]
   exact ⟨cfg_eq rfl (stN_len _ _ _).symm (bumpL_len _ _).symm rfl rfl rfl, rfl, rfl, rfl, rfl⟩
theorem applyV1f (p : Pro) (s : Siz) (c : Cfg) (x : Stp) (h : Rdy p s c) (he : enB p s c x false) (hk0 : (p.rules.getD x.rule.toNat rul0).kind = 1 ∨ (p.rules.getD x.rule.toNat rul0).kind = 4) (hcor0 : ¬ x.process < c.correct) : Spec Tryz.prog 124 [.agg (encV p s c), .agg (encX x)] (Mem.ofL []) (apR c (p.rules.getD x.rule.toNat rul0) x):=by
 have hle:=bigP_le h.big
 have hc:=wide_le h.wide
 obtain ⟨hin, hen⟩:=he
 have hR:=valid_rule h.val (i:=x.rule.toNat) (by omega)
 have hB:=bigP_rule h.big (j:=x.rule.toNat) (by omega)
 have hsn:=h.vc.snl
 have hfa:=h.vc.fal
 have hsta:=h.vc.sta
 have hco : 0 ≤ c.correct ∧ c.correct ≤ 8:=by
  have:=h.vc.cor
  have:=h.sz
  omega
 refine Spec.intro tt_ok mx_ok [] Tryz.func124 rfl (by decide) ?_
 conv=>whnf
 refine boxP rfl ?_
 conv=>whnf
 refine boxP rfl ?_
 conv=>whnf
 refine nI ?_
 generalize p.rules.getD x.rule.toNat rul0 = r at hen hR hB hk0
 have hcor:=hcor0
 have hbr:=bigR_le hB
 have hrd:=hR.read
 have hfit:=hR.fit
 unfold fitB at hfit
 have hse:=hR.send
 conv=>whnf
 refine Spec.news 400 (lmC 5 9 13 17) (memC c) (cfgL c) (cloneL c h.wide) (auto_) rfl outC ?_
 conv=>whnf
 refine nI ?_
 conv=>whnf
 refine rowSetI _ rfl ?_
 conv=>whnf
 have hpl : x.process.toNat < c.states.length:=by omega
 have hpc : ((x.process.toNat : Nat) : Int) = x.process:=by omega
 have k14:=hk0
 have hst : c.states.set x.process.toNat r.dst = stN c r x:=st_of (by simp) fun j hj=>by
  rw [getD_set]
  unfold stG
  by_cases e : x.process.toNat = j
  ·rw [if_pos ⟨e, by omega⟩, if_pos (by omega)]
  ·rw [if_neg (fun h=>e h.1), if_neg (by omega), if_neg (by omega), if_neg (by omega)]
 rw [hst]
 repeat' ((first|refine nI ?_|refine aI ?_|refine tI ?_|refine fI ?_|fail);conv=>whnf)
 repeat' ((first|refine nI ?_|refine aI ?_|refine tI ?_|refine fI ?_|fail);conv=>whnf)
 refine WPc.loopF tt_ok mx_ok (fun k : Nat=>k ≤ r.send.length ∧ ∀ j, j < k → (bumpL c.faulty (r.send.take (j + 1))).getD (r.send.getD j 0).toNat 0 ≤ 1048576) (fun k=>[(79, .int .i64 (k : Int))]) (fun k=>apM c r (stN c r x) c.sent (bumpL c.faulty (r.send.take k))) (fun k=>r.send.length - k) 0 ⟨by omega, fun j hj=>by omega⟩ ?_; conv=>whnf
 refine ⟨sI, ?_⟩
 rintro k ⟨hk, ha⟩
 conv=>whnf
 refine cmpI ?_ ?_ <;> (intro g1; conv=>whnf)
 ·have hm:=hse k (by omega)
  have hb:=bumpL_b (r.send.take k) c.faulty 1048576 (inR_all h.sent.2) (r.send.getD k 0).toNat
  have htl : (r.send.take k).length ≤ 60:=by rw [List.length_take]; omega
  have hup:=bumpL_up (l:=c.faulty) (ms:=r.send) (k:=k) (by omega)
  refine nI ?_
  rw [tN]
  conv=>whnf
  refine nI ?_
  conv=>whnf
  refine aI ?_
  conv=>whnf
  refine nI ?_
  conv=>whnf
  refine rowSetI _ rfl ?_
  rw [← hup]
  conv=>whnf
  refine nI ?_
  conv=>whnf
  refine cmpI ?_ ?_ <;> (intro g2; conv=>whnf)
  ·exact .inr ⟨fun hap=>by unfold apB at hap; rw [if_neg hcor] at hap; have:=hap k (by omega); omega, rfl⟩
  ·repeat' ((first|refine nI ?_|refine aI ?_|refine tI ?_|refine fI ?_|fail);conv=>whnf)
   refine ⟨k + 1, sI, ⟨by omega, fun j hj=>?_⟩, by dsimp only; omega⟩
   by_cases e : j = k
   ·subst e; omega
   ·exact ha j (by omega)
 ·obtain rfl : k = r.send.length:=by omega
  rw [List.take_length]
  have hap : apB c r x:=by unfold apB; rw [if_neg hcor]; exact ha
  by_cases hwr : r.write = -1
  ·repeat' ((first|refine nI ?_|refine aI ?_|refine tI ?_|refine fI ?_|fail);conv=>whnf)
   refine .inl ⟨hap, ?_⟩
   rw [apC_f hcor, if_pos hwr]
   exact ⟨cfg_eq rfl (stN_len _ _ _).symm rfl (bumpL_len _ _).symm rfl rfl, rfl, rfl, rfl, rfl⟩
  ·repeat' ((first|refine nI ?_|refine aI ?_|refine tI ?_|refine fI ?_|fail);conv=>whnf)
   refine .inl ⟨hap, ?_⟩
   rw [apC_f hcor, if_neg hwr]
   exact ⟨cfg_eq rfl (stN_len _ _ _).symm rfl (bumpL_len _ _).symm rfl rfl, rfl, rfl, rfl, rfl⟩
def K1 (p : Pro) (x : Stp) : Prop:=(p.rules.getD x.rule.toNat rul0).kind = 1 ∧ (p.rules.getD x.rule.toNat rul0).write = -1
theorem applyV (p : Pro) (s : Siz) (c : Cfg) (x : Stp) (h : Rdy p s c) (he : enB p s c x false) (hk1 : K1 p x) : Spec Tryz.prog 124 [.agg (encV p s c), .agg (encX x)] (Mem.ofL []) (apR c (p.rules.getD x.rule.toNat rul0) x):=by
 by_cases hcor : x.process < c.correct
 ·exact applyV1t p s c x h he (.inl hk1.1) hcor
 ·exact applyV1f p s c x h he (.inl hk1.1) hcor
def apM2 (c : Cfg) (r : Rul) (v : Int) (st se fa : List Int) : List (Nat × Blk):=[(6, bxN), (8, bxR r), (9, bxC c v), (1001, rowN c.shape), (1002, rowN st), (1003, rowN se), (1004, rowN fa)]
theorem snd_up {l ms : List Int} {k : Nat} (ha : ∀ j, j < k → (bumpL l (ms.take (j + 1))).getD (ms.getD j 0).toNat 0 ≤ 1048576) (h : (bumpL l (ms.take (k + 1))).getD (ms.getD k 0).toNat 0 ≤ 1048576) : ∀ j, j < k + 1 → (bumpL l (ms.take (j + 1))).getD (ms.getD j 0).toNat 0 ≤ 1048576:=fun j hj=>by
 by_cases e : j = k
 ·subst e; exact h
 ·exact ha j (by omega)
theorem applyR1nt (p : Pro) (s : Siz) (c : Cfg) (x : Stp) (h : Rdy p s c) (he : enB p s c x false) (hk0 : (p.rules.getD x.rule.toNat rul0).kind = 1 ∨ (p.rules.getD x.rule.toNat rul0).kind = 4) (hwr0 : (p.rules.getD x.rule.toNat rul0).write = -1) (hcor0 : x.process < c.correct) : PSpec Tryz.prog 191 [.agg (encP p), .agg (encC c), .agg (encX x)] (fun u=>u = .tup [.agg (encC (apC c (p.rules.getD x.rule.toNat rul0) x)), .bool (decide (apB c (p.rules.getD x.rule.toNat rul0) x))]):=by
 have hle:=bigP_le h.big
 have hc:=wide_le h.wide
 obtain ⟨hin, hen⟩:=he
 have hR:=valid_rule h.val (i:=x.rule.toNat) (by omega)
 have hB:=bigP_rule h.big (j:=x.rule.toNat) (by omega)
 have hsn:=h.vc.snl
 have hfa:=h.vc.fal
 have hsta:=h.vc.sta
 refine PSpec.intro tt_ok mx_ok Tryz.func191 rfl (by decide) ?_; (conv=>whnf)
 refine boxP rfl ?_
 conv=>whnf
 refine boxP rfl ?_
 conv=>whnf
 refine boxP rfl ?_
 conv=>whnf
 refine drawF (by decide +kernel) ?_
 conv=>whnf
 refine nI ?_
 generalize p.rules.getD x.rule.toNat rul0 = r at hen hR hB hk0 hwr0 ⊢
 have hwr:=hwr0
 have hcor:=hcor0
 have hbr:=bigR_le hB
 have hrd:=hR.read
 have hfit:=hR.fit
 unfold fitB at hfit
 have hse:=hR.send
 conv=>whnf
 refine callLN 400 (lmC 1001 1002 1003 1004) (memC c) (cfgL c) (copyL c h.wide) (auto_) rfl rfl outC ?_
 conv=>whnf
 have hpl : x.process.toNat < c.states.length:=by omega
 have hpc : ((x.process.toNat : Nat) : Int) = x.process:=by omega
 have k14:=hk0
 have hst : c.states.set x.process.toNat r.dst = stN c r x:=st_of (by simp) fun j hj=>by
  rw [getD_set]
  unfold stG
  by_cases e : x.process.toNat = j
  ·rw [if_pos ⟨e, by omega⟩, if_pos (by omega)]
  ·rw [if_neg (fun h=>e h.1), if_neg (by omega), if_neg (by omega), if_neg (by omega)]
 repeat' ((first|refine nI ?_|refine aI ?_|refine tI ?_|refine fI ?_|fail);conv=>whnf)
 refine rowSetI _ rfl ?_
 rw [hst]
 conv=>whnf
 refine fI ?_
 conv=>whnf
 refine WPc.loopF tt_ok mx_ok (fun z : Nat × Bool=>z.1 ≤ r.send.length ∧ (z.2 = true ↔ ∀ j, j < z.1 → (bumpL c.sent (r.send.take (j + 1))).getD (r.send.getD j 0).toNat 0 ≤ 1048576)) (fun z=>[(12, .int .i64 (z.1 : Int)), (11, .bool z.2)]) (fun z=>apM2 c r c.value (stN c r x) (bumpL c.sent (r.send.take z.1)) c.faulty) (fun z=>r.send.length - z.1) (0, true) ⟨Nat.zero_le _, iffT (fun j hj=>by dsimp only at hj; omega)⟩ ?_; conv=>whnf
 refine ⟨sI, ?_⟩
 rintro ⟨k, b⟩ ⟨hk, hb⟩
 dsimp only at hk hb ⊢
 cases b
 ·conv=>whnf
  refine cmpI ?_ ?_ <;> (intro g1; conv=>whnf)
  ·have hm:=hse k (by omega)
   have hbb:=bumpL_b (r.send.take k) c.sent 1048576 (inR_all h.sent.1) (r.send.getD k 0).toNat
   have htl : (r.send.take k).length ≤ 60:=by rw [List.length_take]; omega
   have hup:=bumpL_up (l:=c.sent) (ms:=r.send) (k:=k) (by omega)
   refine cmpT hcor ?_
   conv=>whnf
   refine dI ?_
   conv=>whnf
   refine nI ?_
   rw [tN]
   conv=>whnf
   refine nI ?_
   conv=>whnf
   refine aI ?_
   conv=>whnf
   refine nI ?_
   conv=>whnf
   refine rowSetI _ rfl ?_
   rw [← hup]
   conv=>whnf
   refine dI ?_
   conv=>whnf
   repeat' ((first|refine nI ?_|refine aI ?_|refine tI ?_|refine fI ?_|fail);conv=>whnf)
   exact ⟨(k + 1, false), sI, ⟨by dsimp only; omega, iffF (fun hh=>nIff hb (fun j hj=>hh j (by omega)))⟩, by dsimp only; omega⟩
  ·obtain rfl : k = r.send.length:=by omega
   rw [List.take_length]
   have hap : ¬ apB c r x:=by unfold apB; rw [if_pos hcor]; exact nIff hb
   refine ⟨?_, rfl⟩
   rw [decide_eq_false hap, apC_t hcor, if_pos hwr]
   rfl
 ·conv=>whnf
  refine cmpI ?_ ?_ <;> (intro g1; conv=>whnf)
  ·have hm:=hse k (by omega)
   have hbb:=bumpL_b (r.send.take k) c.sent 1048576 (inR_all h.sent.1) (r.send.getD k 0).toNat
   have htl : (r.send.take k).length ≤ 60:=by rw [List.length_take]; omega
   have hup:=bumpL_up (l:=c.sent) (ms:=r.send) (k:=k) (by omega)
   refine cmpT hcor ?_
   conv=>whnf
   refine dI ?_
   conv=>whnf
   refine nI ?_
   rw [tN]
   conv=>whnf
   refine nI ?_
   conv=>whnf
   refine aI ?_
   conv=>whnf
   refine nI ?_
   conv=>whnf
   refine rowSetI _ rfl ?_
   rw [← hup]
   conv=>whnf
   refine dI ?_
   conv=>whnf
   refine nI ?_
   rw [tN]
   conv=>whnf
   refine nI ?_
   conv=>whnf
   refine cmpI ?_ ?_ <;> (intro g2; conv=>whnf)
   ·repeat' ((first|refine nI ?_|refine aI ?_|refine tI ?_|refine fI ?_|fail);conv=>whnf)
    exact ⟨(k + 1, true), sI, ⟨by dsimp only; omega, iffT (snd_up (hb.1 rfl) g2)⟩, by dsimp only; omega⟩
   ·repeat' ((first|refine nI ?_|refine aI ?_|refine tI ?_|refine fI ?_|fail);conv=>whnf)
    exact ⟨(k + 1, false), sI, ⟨by dsimp only; omega, iffF (fun hh=>g2 (hh k (by omega)))⟩, by dsimp only; omega⟩
  ·obtain rfl : k = r.send.length:=by omega
   rw [List.take_length]
   have hap : apB c r x:=by unfold apB; rw [if_pos hcor]; exact hb.1 rfl
   refine ⟨?_, rfl⟩
   rw [decide_eq_true hap, apC_t hcor, if_pos hwr]
   rfl
theorem applyR1nf (p : Pro) (s : Siz) (c : Cfg) (x : Stp) (h : Rdy p s c) (he : enB p s c x false) (hk0 : (p.rules.getD x.rule.toNat rul0).kind = 1 ∨ (p.rules.getD x.rule.toNat rul0).kind = 4) (hwr0 : (p.rules.getD x.rule.toNat rul0).write = -1) (hcor0 : ¬ x.process < c.correct) : PSpec Tryz.prog 191 [.agg (encP p), .agg (encC c), .agg (encX x)] (fun u=>u = .tup [.agg (encC (apC c (p.rules.getD x.rule.toNat rul0) x)), .bool (decide (apB c (p.rules.getD x.rule.toNat rul0) x))]):=by
 have hle:=bigP_le h.big
 have hc:=wide_le h.wide
 obtain ⟨hin, hen⟩:=he
 have hR:=valid_rule h.val (i:=x.rule.toNat) (by omega)
 have hB:=bigP_rule h.big (j:=x.rule.toNat) (by omega)
 have hsn:=h.vc.snl
 have hfa:=h.vc.fal
 have hsta:=h.vc.sta
 refine PSpec.intro tt_ok mx_ok Tryz.func191 rfl (by decide) ?_; (conv=>whnf)
 refine boxP rfl ?_
 conv=>whnf
 refine boxP rfl ?_
 conv=>whnf
 refine boxP rfl ?_
 conv=>whnf
 refine drawF (by decide +kernel) ?_
 conv=>whnf
 refine nI ?_
 generalize p.rules.getD x.rule.toNat rul0 = r at hen hR hB hk0 hwr0 ⊢
 have hwr:=hwr0
 have hcor:=hcor0
 have hbr:=bigR_le hB
 have hrd:=hR.read
 have hfit:=hR.fit
 unfold fitB at hfit
 have hse:=hR.send
 conv=>whnf
 refine callLN 400 (lmC 1001 1002 1003 1004) (memC c) (cfgL c) (copyL c h.wide) (auto_) rfl rfl outC ?_
 conv=>whnf
 have hpl : x.process.toNat < c.states.length:=by omega
 have hpc : ((x.process.toNat : Nat) : Int) = x.process:=by omega
 have k14:=hk0
 have hst : c.states.set x.process.toNat r.dst = stN c r x:=st_of (by simp) fun j hj=>by
  rw [getD_set]
  unfold stG
  by_cases e : x.process.toNat = j
  ·rw [if_pos ⟨e, by omega⟩, if_pos (by omega)]
  ·rw [if_neg (fun h=>e h.1), if_neg (by omega), if_neg (by omega), if_neg (by omega)]
 repeat' ((first|refine nI ?_|refine aI ?_|refine tI ?_|refine fI ?_|fail);conv=>whnf)
 refine rowSetI _ rfl ?_
 rw [hst]
 conv=>whnf
 refine fI ?_
 conv=>whnf
 refine WPc.loopF tt_ok mx_ok (fun z : Nat × Bool=>z.1 ≤ r.send.length ∧ (z.2 = true ↔ ∀ j, j < z.1 → (bumpL c.faulty (r.send.take (j + 1))).getD (r.send.getD j 0).toNat 0 ≤ 1048576)) (fun z=>[(12, .int .i64 (z.1 : Int)), (11, .bool z.2)]) (fun z=>apM2 c r c.value (stN c r x) c.sent (bumpL c.faulty (r.send.take z.1))) (fun z=>r.send.length - z.1) (0, true) ⟨Nat.zero_le _, iffT (fun j hj=>by dsimp only at hj; omega)⟩ ?_; conv=>whnf
 refine ⟨sI, ?_⟩
 rintro ⟨k, b⟩ ⟨hk, hb⟩
 dsimp only at hk hb ⊢
 cases b
 ·conv=>whnf
  refine cmpI ?_ ?_ <;> (intro g1; conv=>whnf)
  ·have hm:=hse k (by omega)
   have hbb:=bumpL_b (r.send.take k) c.faulty 1048576 (inR_all h.sent.2) (r.send.getD k 0).toNat
   have htl : (r.send.take k).length ≤ 60:=by rw [List.length_take]; omega
   have hup:=bumpL_up (l:=c.faulty) (ms:=r.send) (k:=k) (by omega)
   refine cmpF hcor ?_
   conv=>whnf
   refine dI ?_
   conv=>whnf
   refine nI ?_
   rw [tN]
   conv=>whnf
   refine nI ?_
   conv=>whnf
   refine aI ?_
   conv=>whnf
   refine nI ?_
   conv=>whnf
   refine rowSetI _ rfl ?_
   rw [← hup]
   conv=>whnf
   refine dI ?_
   conv=>whnf
   repeat' ((first|refine nI ?_|refine aI ?_|refine tI ?_|refine fI ?_|fail);conv=>whnf)
   exact ⟨(k + 1, false), sI, ⟨by dsimp only; omega, iffF (fun hh=>nIff hb (fun j hj=>hh j (by omega)))⟩, by dsimp only; omega⟩
  ·obtain rfl : k = r.send.length:=by omega
   rw [List.take_length]
   have hap : ¬ apB c r x:=by unfold apB; rw [if_neg hcor]; exact nIff hb
   refine ⟨?_, rfl⟩
   rw [decide_eq_false hap, apC_f hcor, if_pos hwr]
   rfl
 ·conv=>whnf
  refine cmpI ?_ ?_ <;> (intro g1; conv=>whnf)
  ·have hm:=hse k (by omega)
   have hbb:=bumpL_b (r.send.take k) c.faulty 1048576 (inR_all h.sent.2) (r.send.getD k 0).toNat
   have htl : (r.send.take k).length ≤ 60:=by rw [List.length_take]; omega
   have hup:=bumpL_up (l:=c.faulty) (ms:=r.send) (k:=k) (by omega)
   refine cmpF hcor ?_
   conv=>whnf
   refine dI ?_
   conv=>whnf
   refine nI ?_
   rw [tN]
   conv=>whnf
   refine nI ?_
   conv=>whnf
   refine aI ?_
   conv=>whnf
   refine nI ?_
   conv=>whnf
   refine rowSetI _ rfl ?_
   rw [← hup]
   conv=>whnf
   refine dI ?_
   conv=>whnf
   refine nI ?_
   rw [tN]
   conv=>whnf
   refine nI ?_
   conv=>whnf
   refine cmpI ?_ ?_ <;> (intro g2; conv=>whnf)
   ·repeat' ((first|refine nI ?_|refine aI ?_|refine tI ?_|refine fI ?_|fail);conv=>whnf)
    exact ⟨(k + 1, true), sI, ⟨by dsimp only; omega, iffT (snd_up (hb.1 rfl) g2)⟩, by dsimp only; omega⟩
   ·repeat' ((first|refine nI ?_|refine aI ?_|refine tI ?_|refine fI ?_|fail);conv=>whnf)
    exact ⟨(k + 1, false), sI, ⟨by dsimp only; omega, iffF (fun hh=>g2 (hh k (by omega)))⟩, by dsimp only; omega⟩
  ·obtain rfl : k = r.send.length:=by omega
   rw [List.take_length]
   have hap : apB c r x:=by unfold apB; rw [if_neg hcor]; exact hb.1 rfl
   refine ⟨?_, rfl⟩
   rw [decide_eq_true hap, apC_f hcor, if_pos hwr]
   rfl
theorem applyR (p : Pro) (s : Siz) (c : Cfg) (x : Stp) (h : Rdy p s c) (he : enB p s c x false) (hk1 : K1 p x) : PSpec Tryz.prog 191 [.agg (encP p), .agg (encC c), .agg (encX x)] (fun u=>u = .tup [.agg (encC (apC c (p.rules.getD x.rule.toNat rul0) x)), .bool (decide (apB c (p.rules.getD x.rule.toNat rul0) x))]):=by
 by_cases hcor : x.process < c.correct
 ·exact applyR1nt p s c x h he (.inl hk1.1) hk1.2 hcor
 ·exact applyR1nf p s c x h he (.inl hk1.1) hk1.2 hcor
theorem ApplyR_s (p : Pro) (s : Siz) (c : Cfg) (x : Stp) (hp : ¬ bigP p) (hw : wideB c = false) (h1 : vconE p s c = 0) (hn : ¬ enB p s c x false) : PSpec Tryz.prog 114 [.agg (encP p), .agg (encZ s), .agg (encC c), .agg (encX x)] (fun u=>u = .tup [.agg (encC cfg0), .int .i64 9]):=by
 refine PSpec.sub (R:=fun u=>u = .tup [.agg cfgN, .int .i64 9]) ?_ (by rintro _ rfl; exact ⟨_, rfl, auto_, rfl⟩)
 have h:=Rdy.of hp hw h1
 refine PSpec.intro tt_ok mx_ok Tryz.func114 rfl (by decide) ?_; (conv=>whnf)
 refine boxP rfl ?_
 conv=>whnf
 refine boxP rfl ?_
 conv=>whnf
 refine boxP rfl ?_
 conv=>whnf
 refine boxP rfl ?_
 conv=>whnf
 (refine oP (ValidConfigR p s c hp hw) ?_; conv=>whnf)
 refine fI ?_
 conv=>whnf
 refine dC (enabledR p s c x false h) (fun _=>?_) (fun _=>?_) <;> (conv=>whnf)
 ·rename_i he; exact absurd he hn
 exact ⟨rfl, rfl⟩
theorem ApplyR_k (p : Pro) (s : Siz) (c : Cfg) (x : Stp) (hp : ¬ bigP p) (hw : wideB c = false) (h1 : vconE p s c = 0) (he : enB p s c x false) (hk1 : K1 p x) (ha : apB c (p.rules.getD x.rule.toNat rul0) x) : PSpec Tryz.prog 114 [.agg (encP p), .agg (encZ s), .agg (encC c), .agg (encX x)] (fun u=>u = .tup [.agg (encC (apC c (p.rules.getD x.rule.toNat rul0) x)), .int .i64 0]):=by
 have h:=Rdy.of hp hw h1
 refine PSpec.intro tt_ok mx_ok Tryz.func114 rfl (by decide) ?_; (conv=>whnf)
 refine boxP rfl ?_
 conv=>whnf
 refine boxP rfl ?_
 conv=>whnf
 refine boxP rfl ?_
 conv=>whnf
 refine boxP rfl ?_
 conv=>whnf
 (refine oP (ValidConfigR p s c hp hw) ?_; conv=>whnf)
 refine fI ?_
 conv=>whnf
 refine dC (enabledR p s c x false h) (fun _=>?_) (fun _=>?_) <;> (conv=>whnf)
 case refine_2=>rename_i hn; exact absurd he hn
 have hA:=applyR p s c x h he hk1
 rw [decide_eq_true ha] at hA
 (refine oP (hA) ?_; conv=>whnf)
 exact ⟨rfl, rfl⟩
theorem ApplyR_l (p : Pro) (s : Siz) (c : Cfg) (x : Stp) (hp : ¬ bigP p) (hw : wideB c = false) (h1 : vconE p s c = 0) (he : enB p s c x false) (hk1 : K1 p x) (ha : ¬ apB c (p.rules.getD x.rule.toNat rul0) x) : PSpec Tryz.prog 114 [.agg (encP p), .agg (encZ s), .agg (encC c), .agg (encX x)] (fun u=>u = .tup [.agg (encC cfg0), .int .i64 4]):=by
 refine PSpec.sub (R:=fun u=>u = .tup [.agg cfgN, .int .i64 4]) ?_ (by rintro _ rfl; exact ⟨_, rfl, auto_, rfl⟩)
 have h:=Rdy.of hp hw h1
 refine PSpec.intro tt_ok mx_ok Tryz.func114 rfl (by decide) ?_; (conv=>whnf)
 refine boxP rfl ?_
 conv=>whnf
 refine boxP rfl ?_
 conv=>whnf
 refine boxP rfl ?_
 conv=>whnf
 refine boxP rfl ?_
 conv=>whnf
 (refine oP (ValidConfigR p s c hp hw) ?_; conv=>whnf)
 refine fI ?_
 conv=>whnf
 refine dC (enabledR p s c x false h) (fun _=>?_) (fun _=>?_) <;> (conv=>whnf)
 case refine_2=>rename_i hn; exact absurd he hn
 have hA:=applyR p s c x h he hk1
 rw [decide_eq_false ha] at hA
 (refine oP (hA) ?_; conv=>whnf)
 exact ⟨rfl, rfl⟩
end Go.Proofs.YtnjggjhkfncnlaaGreatDoor
