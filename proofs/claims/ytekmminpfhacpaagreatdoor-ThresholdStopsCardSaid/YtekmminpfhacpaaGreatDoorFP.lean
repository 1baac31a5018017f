import Derived.Test.YtekmminpfhacpaaGreatDoorM7
set_option linter.unusedVariables false
set_option linter.unusedSimpArgs false
namespace Go.Proofs.YtekmminpfhacpaaGreatDoor
set_option maxRecDepth 100000
set_option maxHeartbeats 16000000
def Bg:List AV:=[.nilsl, .nilsl, .int .i64 0, .nilsl, .nilsl, .int .i64 0]
def Io (c:ay) (r:bC) (x:cj):AV->aj->Prop:=fun u M=>(kq c r x/\IJ 1001 1002 1003 1004 (d9 c r x) 0 u M)\/(¬kq c r x/\u= .tup [.agg Bg, .int .i64 4])
def IK (c:ay) (v:Int):bP:=.box 61 [.row 1001 c.shape.length 1, .row 1002 c.states.length 1, .int .i64 c.correct, .row 1003 c.sent.length 1, .row 1004 c.faulty.length 1, .int .i64 v]
def IL:bP:=.box 61 Bg
def IM (r:bC):bP:=.box 180 (ee r)
def IP (c:ay) (r:bC) (st se fa:List Int):List (Nat×bP):=[(4,IL),(6,IM r),(7,IK c c.value),(1001,bm c.shape),(1002,bm st),(1003,bm se),(1004,bm fa)]
theorem rS {a b d e:Nat} {c:ay} {n1 n2 n3 n4:Nat} {k v:Int} (h1:n1=c.shape.length) (h2:n2=c.states.length) (h3:n3=c.sent.length) (h4:n4=c.faulty.length) (h5:k=c.correct) (h6:v=c.value):
  AV.tup [.agg [.row a n1 1, .row b n2 1, .int .i64 k, .row d n3 1, .row e n4 1, .int .i64 v], .int .i64 0]= .tup [yg a b d e c, .int .i64 0]:=by
 subst h1;subst h2;subst h3;subst h4;subst h5;subst h6;rfl
theorem qD {c:ay} {r:bC} {x:cj} (h:x.process<c.correct):d9 c r x=⟨c.shape,wR c r x,c.correct,bR c.sent r.send,c.faulty,if r.write=-1 then c.value else r.write⟩:=by
 unfold d9;rw[if_pos h,if_pos h]
theorem qE {c:ay} {r:bC} {x:cj} (h:¬x.process<c.correct):d9 c r x=⟨c.shape,wR c r x,c.correct,c.sent,bR c.faulty r.send,if r.write=-1 then c.value else r.write⟩:=by
 unfold d9;rw[if_neg h,if_neg h]
theorem Bh (p:an) (s:aC) (c:ay) (x:cj) (h:dk p s c) (he:iZ p s c x false) (hk0:(p.rules.getD x.rule.toNat aq).kind=1\/(p.rules.getD x.rule.toNat aq).kind=4) (hcor0:x.process<c.correct):am Tryz.prog 164 [.agg (mV p s c), .agg (ef x)] (aj.ofL []) (Io c (p.rules.getD x.rule.toNat aq) x):=by
 have hle:=aO h.big
 have hc:=br h.wide
 obtain⟨hin,hen⟩:=he
 have hR:=cG h.val (i:=x.rule.toNat) (by omega)
 have hB:=cQ h.big (j:=x.rule.toNat) (by omega)
 have hsn:=h.vc.snl
 have hfa:=h.vc.fal
 have hsta:=h.vc.sta
 have hco:0<=c.correct/\c.correct<=8:=by
  have:=h.vc.cor
  have:=h.sz
  omega
 refine am.intro ac ae [] Tryz.func164 rfl (by decide) ?_
 conv=>whnf
 refine ak rfl ?_
 conv=>whnf
 refine ak rfl ?_
 conv=>whnf
 refine nI ?_
 generalize p.rules.getD x.rule.toNat aq=r at hen hR hB hk0
 have hcor:=hcor0
 have hbr:=dh hB
 have hrd:=hR.read
 have hfit:=hR.fit
 unfold dV at hfit
 have hse:=hR.send
 conv=>whnf
 refine am.news 400 (vE 5 9 13 17) (o9 c) (mX c) (rQ c h.wide) (aa) rfl yh ?_
 conv=>whnf
 refine nI ?_
 conv=>whnf
 refine ap _ rfl ?_
 conv=>whnf
 have hpl:x.process.toNat<c.states.length:=by omega
 have hpc:((x.process.toNat:Nat):Int)=x.process:=by omega
 have k14:=hk0
 have hst:c.states.set x.process.toNat r.dst=wR c r x:=t8 (by simp) fun j hj=>by
  rw[b8]
  unfold Dx
  by_cases e:x.process.toNat=j
  ·rw[if_pos ⟨e,by omega⟩,if_pos (by omega)]
  ·rw[if_neg (fun h=>e h.1),if_neg (by omega),if_neg (by omega),if_neg (by omega)]
 rw[hst]
 repeat' ((first|refine nI ?_|refine aI ?_|refine tI ?_|refine fI ?_|fail);conv=>whnf)
 repeat' ((first|refine nI ?_|refine aI ?_|refine tI ?_|refine fI ?_|fail);conv=>whnf)
 refine aF.loopF ac ae (fun k:Nat=>k<=r.send.length/\∀j,j<k->(bR c.sent (r.send.take (j+1))).getD (r.send.getD j 0).toNat 0<=1048576) (fun k=>[(79, .int .i64 (k:Int))]) (fun k=>IP c r (wR c r x) (bR c.sent (r.send.take k)) c.faulty) (fun k=>r.send.length-k) 0 ⟨by omega,fun j hj=>by omega⟩ ?_;conv=>whnf
 refine⟨sI,?_⟩
 rintro k ⟨hk,ha⟩
 conv=>whnf
 refine ag ?_ ?_<;>(intro g1;conv=>whnf)
 ·have hm:=hse k (by omega)
  have hb:=fV (r.send.take k) c.sent 1048576 (i5 h.sent.1) (r.send.getD k 0).toNat
  have htl:(r.send.take k).length<=60:=by rw[List.length_take];omega
  have hup:=gt (l:=c.sent) (ms:=r.send) (k:=k) (by omega)
  refine nI ?_
  rw[tN]
  conv=>whnf
  refine nI ?_
  conv=>whnf
  refine aI ?_
  conv=>whnf
  refine nI ?_
  conv=>whnf
  refine ap _ rfl ?_
  rw[<-hup]
  conv=>whnf
  refine nI ?_
  conv=>whnf
  refine ag ?_ ?_<;>(intro g2;conv=>whnf)
  ·exact .inr ⟨fun hap=>by unfold kq at hap;rw[if_pos hcor] at hap;have:=hap k (by omega);omega,rfl⟩
  ·repeat' ((first|refine nI ?_|refine aI ?_|refine tI ?_|refine fI ?_|fail);conv=>whnf)
   refine⟨k+1,sI,⟨by omega,fun j hj=>?_⟩,by dsimp only;omega⟩
   by_cases e:j=k
   ·subst e;omega
   ·exact ha j (by omega)
 ·obtain rfl:k=r.send.length:=by omega
  rw[List.take_length]
  have hap:kq c r x:=by unfold kq;rw[if_pos hcor];exact ha
  by_cases hwr:r.write=-1
  ·repeat' ((first|refine nI ?_|refine aI ?_|refine tI ?_|refine fI ?_|fail);conv=>whnf)
   refine .inl ⟨hap,?_⟩
   rw[qD hcor,if_pos hwr]
   exact⟨rS rfl (j6 _ _ _).symm (dp _ _).symm rfl rfl rfl,rfl,rfl,rfl,rfl⟩
  ·repeat' ((first|refine nI ?_|refine aI ?_|refine tI ?_|refine fI ?_|fail);conv=>whnf)
   refine .inl ⟨hap,?_⟩
   rw[qD hcor,if_neg hwr]
   exact⟨rS rfl (j6 _ _ _).symm (dp _ _).symm rfl rfl rfl,rfl,rfl,rfl,rfl⟩
theorem Bi (p:an) (s:aC) (c:ay) (x:cj) (h:dk p s c) (he:iZ p s c x false) (hk0:(p.rules.getD x.rule.toNat aq).kind=1\/(p.rules.getD x.rule.toNat aq).kind=4) (hcor0:¬x.process<c.correct):am Tryz.prog 164 [.agg (mV p s c), .agg (ef x)] (aj.ofL []) (Io c (p.rules.getD x.rule.toNat aq) x):=by
 have hle:=aO h.big
 have hc:=br h.wide
 obtain⟨hin,hen⟩:=he
 have hR:=cG h.val (i:=x.rule.toNat) (by omega)
 have hB:=cQ h.big (j:=x.rule.toNat) (by omega)
 have hsn:=h.vc.snl
 have hfa:=h.vc.fal
 have hsta:=h.vc.sta
 have hco:0<=c.correct/\c.correct<=8:=by
  have:=h.vc.cor
  have:=h.sz
  omega
 refine am.intro ac ae [] Tryz.func164 rfl (by decide) ?_
 conv=>whnf
 refine ak rfl ?_
 conv=>whnf
 refine ak rfl ?_
 conv=>whnf
 refine nI ?_
 generalize p.rules.getD x.rule.toNat aq=r at hen hR hB hk0
 have hcor:=hcor0
 have hbr:=dh hB
 have hrd:=hR.read
 have hfit:=hR.fit
 unfold dV at hfit
 have hse:=hR.send
 conv=>whnf
 refine am.news 400 (vE 5 9 13 17) (o9 c) (mX c) (rQ c h.wide) (aa) rfl yh ?_
 conv=>whnf
 refine nI ?_
 conv=>whnf
 refine ap _ rfl ?_
 conv=>whnf
 have hpl:x.process.toNat<c.states.length:=by omega
 have hpc:((x.process.toNat:Nat):Int)=x.process:=by omega
 have k14:=hk0
 have hst:c.states.set x.process.toNat r.dst=wR c r x:=t8 (by simp) fun j hj=>by
  rw[b8]
  unfold Dx
  by_cases e:x.process.toNat=j
  ·rw[if_pos ⟨e,by omega⟩,if_pos (by omega)]
  ·rw[if_neg (fun h=>e h.1),if_neg (by omega),if_neg (by omega),if_neg (by omega)]
 rw[hst]
 repeat' ((first|refine nI ?_|refine aI ?_|refine tI ?_|refine fI ?_|fail);conv=>whnf)
 repeat' ((first|refine nI ?_|refine aI ?_|refine tI ?_|refine fI ?_|fail);conv=>whnf)
 refine aF.loopF ac ae (fun k:Nat=>k<=r.send.length/\∀j,j<k->(bR c.faulty (r.send.take (j+1))).getD (r.send.getD j 0).toNat 0<=1048576) (fun k=>[(79, .int .i64 (k:Int))]) (fun k=>IP c r (wR c r x) c.sent (bR c.faulty (r.send.take k))) (fun k=>r.send.length-k) 0 ⟨by omega,fun j hj=>by omega⟩ ?_;conv=>whnf
 refine⟨sI,?_⟩
 rintro k ⟨hk,ha⟩
 conv=>whnf
 refine ag ?_ ?_<;>(intro g1;conv=>whnf)
 ·have hm:=hse k (by omega)
  have hb:=fV (r.send.take k) c.faulty 1048576 (i5 h.sent.2) (r.send.getD k 0).toNat
  have htl:(r.send.take k).length<=60:=by rw[List.length_take];omega
  have hup:=gt (l:=c.faulty) (ms:=r.send) (k:=k) (by omega)
  refine nI ?_
  rw[tN]
  conv=>whnf
  refine nI ?_
  conv=>whnf
  refine aI ?_
  conv=>whnf
  refine nI ?_
  conv=>whnf
  refine ap _ rfl ?_
  rw[<-hup]
  conv=>whnf
  refine nI ?_
  conv=>whnf
  refine ag ?_ ?_<;>(intro g2;conv=>whnf)
  ·exact .inr ⟨fun hap=>by unfold kq at hap;rw[if_neg hcor] at hap;have:=hap k (by omega);omega,rfl⟩
  ·repeat' ((first|refine nI ?_|refine aI ?_|refine tI ?_|refine fI ?_|fail);conv=>whnf)
   refine⟨k+1,sI,⟨by omega,fun j hj=>?_⟩,by dsimp only;omega⟩
   by_cases e:j=k
   ·subst e;omega
   ·exact ha j (by omega)
 ·obtain rfl:k=r.send.length:=by omega
  rw[List.take_length]
  have hap:kq c r x:=by unfold kq;rw[if_neg hcor];exact ha
  by_cases hwr:r.write=-1
  ·repeat' ((first|refine nI ?_|refine aI ?_|refine tI ?_|refine fI ?_|fail);conv=>whnf)
   refine .inl ⟨hap,?_⟩
   rw[qE hcor,if_pos hwr]
   exact⟨rS rfl (j6 _ _ _).symm rfl (dp _ _).symm rfl rfl,rfl,rfl,rfl,rfl⟩
  ·repeat' ((first|refine nI ?_|refine aI ?_|refine tI ?_|refine fI ?_|fail);conv=>whnf)
   refine .inl ⟨hap,?_⟩
   rw[qE hcor,if_neg hwr]
   exact⟨rS rfl (j6 _ _ _).symm rfl (dp _ _).symm rfl rfl,rfl,rfl,rfl,rfl⟩
def K1 (p:an) (x:cj):Prop:=(p.rules.getD x.rule.toNat aq).kind=1/\(p.rules.getD x.rule.toNat aq).write=-1
theorem Bj (p:an) (s:aC) (c:ay) (x:cj) (h:dk p s c) (he:iZ p s c x false) (hk1:K1 p x):am Tryz.prog 164 [.agg (mV p s c), .agg (ef x)] (aj.ofL []) (Io c (p.rules.getD x.rule.toNat aq) x):=by
 by_cases hcor:x.process<c.correct
 ·exact Bh p s c x h he (.inl hk1.1) hcor
 ·exact Bi p s c x h he (.inl hk1.1) hcor
def Hu (c:ay) (r:bC) (v:Int) (st se fa:List Int):List (Nat×bP):=[(6,IL),(8,IM r),(9,IK c v),(1001,bm c.shape),(1002,bm st),(1003,bm se),(1004,bm fa)]
theorem Bk {l ms:List Int} {k:Nat} (ha:∀j,j<k->(bR l (ms.take (j+1))).getD (ms.getD j 0).toNat 0<=1048576) (h:(bR l (ms.take (k+1))).getD (ms.getD k 0).toNat 0<=1048576):∀j,j<k+1->(bR l (ms.take (j+1))).getD (ms.getD j 0).toNat 0<=1048576:=fun j hj=>by
 by_cases e:j=k
 ·subst e;exact h
 ·exact ha j (by omega)
theorem yi (p:an) (s:aC) (c:ay) (x:cj) (h:dk p s c) (he:iZ p s c x false) (hk0:(p.rules.getD x.rule.toNat aq).kind=1\/(p.rules.getD x.rule.toNat aq).kind=4) (hwr0:(p.rules.getD x.rule.toNat aq).write=-1) (hcor0:x.process<c.correct):ab Tryz.prog 276 [.agg (aB p), .agg (bd c), .agg (ef x)] (fun u=>u= .tup [.agg (bd (d9 c (p.rules.getD x.rule.toNat aq) x)), .bool (decide (kq c (p.rules.getD x.rule.toNat aq) x))]):=by
 have hle:=aO h.big
 have hc:=br h.wide
 obtain⟨hin,hen⟩:=he
 have hR:=cG h.val (i:=x.rule.toNat) (by omega)
 have hB:=cQ h.big (j:=x.rule.toNat) (by omega)
 have hsn:=h.vc.snl
 have hfa:=h.vc.fal
 have hsta:=h.vc.sta
 refine ab.intro ac ae Tryz.func276 rfl (by decide) ?_;(conv=>whnf)
 refine ak rfl ?_
 conv=>whnf
 refine ak rfl ?_
 conv=>whnf
 refine ak rfl ?_
 conv=>whnf
 refine we (by decide+kernel) ?_
 conv=>whnf
 refine nI ?_
 generalize p.rules.getD x.rule.toNat aq=r at hen hR hB hk0 hwr0⊢
 have hwr:=hwr0
 have hcor:=hcor0
 have hbr:=dh hB
 have hrd:=hR.read
 have hfit:=hR.fit
 unfold dV at hfit
 have hse:=hR.send
 conv=>whnf
 refine mm 400 (vE 1001 1002 1003 1004) (o9 c) (mX c) (Et c h.wide) (aa) rfl rfl yh ?_
 conv=>whnf
 have hpl:x.process.toNat<c.states.length:=by omega
 have hpc:((x.process.toNat:Nat):Int)=x.process:=by omega
 have k14:=hk0
 have hst:c.states.set x.process.toNat r.dst=wR c r x:=t8 (by simp) fun j hj=>by
  rw[b8]
  unfold Dx
  by_cases e:x.process.toNat=j
  ·rw[if_pos ⟨e,by omega⟩,if_pos (by omega)]
  ·rw[if_neg (fun h=>e h.1),if_neg (by omega),if_neg (by omega),if_neg (by omega)]
 repeat' ((first|refine nI ?_|refine aI ?_|refine tI ?_|refine fI ?_|fail);conv=>whnf)
 refine ap _ rfl ?_
 rw[hst]
 conv=>whnf
 refine fI ?_
 conv=>whnf
 refine aF.loopF ac ae (fun z:Nat×Bool=>z.1<=r.send.length/\(z.2=true↔∀j,j<z.1->(bR c.sent (r.send.take (j+1))).getD (r.send.getD j 0).toNat 0<=1048576)) (fun z=>[(12, .int .i64 (z.1:Int)),(11, .bool z.2)]) (fun z=>Hu c r c.value (wR c r x) (bR c.sent (r.send.take z.1)) c.faulty) (fun z=>r.send.length-z.1) (0,true) ⟨Nat.zero_le _,mw (fun j hj=>by dsimp only at hj;omega)⟩ ?_;conv=>whnf
 refine⟨sI,?_⟩
 rintro⟨k,b⟩ ⟨hk,hb⟩
 dsimp only at hk hb⊢
 cases b
 ·conv=>whnf
  refine ag ?_ ?_<;>(intro g1;conv=>whnf)
  ·have hm:=hse k (by omega)
   have hbb:=fV (r.send.take k) c.sent 1048576 (i5 h.sent.1) (r.send.getD k 0).toNat
   have htl:(r.send.take k).length<=60:=by rw[List.length_take];omega
   have hup:=gt (l:=c.sent) (ms:=r.send) (k:=k) (by omega)
   refine eI hcor ?_
   conv=>whnf
   refine dI ?_
   conv=>whnf
   refine nI ?_
   rw[tN]
   conv=>whnf
   refine nI ?_
   conv=>whnf
   refine aI ?_
   conv=>whnf
   refine nI ?_
   conv=>whnf
   refine ap _ rfl ?_
   rw[<-hup]
   conv=>whnf
   refine dI ?_
   conv=>whnf
   repeat' ((first|refine nI ?_|refine aI ?_|refine tI ?_|refine fI ?_|fail);conv=>whnf)
   exact⟨(k+1,false),sI,⟨by dsimp only;omega,rA (fun hh=>mW hb (fun j hj=>hh j (by omega)))⟩,by dsimp only;omega⟩
  ·obtain rfl:k=r.send.length:=by omega
   rw[List.take_length]
   have hap:¬kq c r x:=by unfold kq;rw[if_pos hcor];exact mW hb
   refine⟨?_,rfl⟩
   rw[decide_eq_false hap,qD hcor,if_pos hwr]
   rfl
 ·conv=>whnf
  refine ag ?_ ?_<;>(intro g1;conv=>whnf)
  ·have hm:=hse k (by omega)
   have hbb:=fV (r.send.take k) c.sent 1048576 (i5 h.sent.1) (r.send.getD k 0).toNat
   have htl:(r.send.take k).length<=60:=by rw[List.length_take];omega
   have hup:=gt (l:=c.sent) (ms:=r.send) (k:=k) (by omega)
   refine eI hcor ?_
   conv=>whnf
   refine dI ?_
   conv=>whnf
   refine nI ?_
   rw[tN]
   conv=>whnf
   refine nI ?_
   conv=>whnf
   refine aI ?_
   conv=>whnf
   refine nI ?_
   conv=>whnf
   refine ap _ rfl ?_
   rw[<-hup]
   conv=>whnf
   refine dI ?_
   conv=>whnf
   refine nI ?_
   rw[tN]
   conv=>whnf
   refine nI ?_
   conv=>whnf
   refine ag ?_ ?_<;>(intro g2;conv=>whnf)
   ·repeat' ((first|refine nI ?_|refine aI ?_|refine tI ?_|refine fI ?_|fail);conv=>whnf)
    exact⟨(k+1,true),sI,⟨by dsimp only;omega,mw (Bk (hb.1 rfl) g2)⟩,by dsimp only;omega⟩
   ·repeat' ((first|refine nI ?_|refine aI ?_|refine tI ?_|refine fI ?_|fail);conv=>whnf)
    exact⟨(k+1,false),sI,⟨by dsimp only;omega,rA (fun hh=>g2 (hh k (by omega)))⟩,by dsimp only;omega⟩
  ·obtain rfl:k=r.send.length:=by omega
   rw[List.take_length]
   have hap:kq c r x:=by unfold kq;rw[if_pos hcor];exact hb.1 rfl
   refine⟨?_,rfl⟩
   rw[decide_eq_true hap,qD hcor,if_pos hwr]
   rfl
theorem yj (p:an) (s:aC) (c:ay) (x:cj) (h:dk p s c) (he:iZ p s c x false) (hk0:(p.rules.getD x.rule.toNat aq).kind=1\/(p.rules.getD x.rule.toNat aq).kind=4) (hwr0:(p.rules.getD x.rule.toNat aq).write=-1) (hcor0:¬x.process<c.correct):ab Tryz.prog 276 [.agg (aB p), .agg (bd c), .agg (ef x)] (fun u=>u= .tup [.agg (bd (d9 c (p.rules.getD x.rule.toNat aq) x)), .bool (decide (kq c (p.rules.getD x.rule.toNat aq) x))]):=by
 have hle:=aO h.big
 have hc:=br h.wide
 obtain⟨hin,hen⟩:=he
 have hR:=cG h.val (i:=x.rule.toNat) (by omega)
 have hB:=cQ h.big (j:=x.rule.toNat) (by omega)
 have hsn:=h.vc.snl
 have hfa:=h.vc.fal
 have hsta:=h.vc.sta
 refine ab.intro ac ae Tryz.func276 rfl (by decide) ?_;(conv=>whnf)
 refine ak rfl ?_
 conv=>whnf
 refine ak rfl ?_
 conv=>whnf
 refine ak rfl ?_
 conv=>whnf
 refine we (by decide+kernel) ?_
 conv=>whnf
 refine nI ?_
 generalize p.rules.getD x.rule.toNat aq=r at hen hR hB hk0 hwr0⊢
 have hwr:=hwr0
 have hcor:=hcor0
 have hbr:=dh hB
 have hrd:=hR.read
 have hfit:=hR.fit
 unfold dV at hfit
 have hse:=hR.send
 conv=>whnf
 refine mm 400 (vE 1001 1002 1003 1004) (o9 c) (mX c) (Et c h.wide) (aa) rfl rfl yh ?_
 conv=>whnf
 have hpl:x.process.toNat<c.states.length:=by omega
 have hpc:((x.process.toNat:Nat):Int)=x.process:=by omega
 have k14:=hk0
 have hst:c.states.set x.process.toNat r.dst=wR c r x:=t8 (by simp) fun j hj=>by
  rw[b8]
  unfold Dx
  by_cases e:x.process.toNat=j
  ·rw[if_pos ⟨e,by omega⟩,if_pos (by omega)]
  ·rw[if_neg (fun h=>e h.1),if_neg (by omega),if_neg (by omega),if_neg (by omega)]
 repeat' ((first|refine nI ?_|refine aI ?_|refine tI ?_|refine fI ?_|fail);conv=>whnf)
 refine ap _ rfl ?_
 rw[hst]
 conv=>whnf
 refine fI ?_
 conv=>whnf
 refine aF.loopF ac ae (fun z:Nat×Bool=>z.1<=r.send.length/\(z.2=true↔∀j,j<z.1->(bR c.faulty (r.send.take (j+1))).getD (r.send.getD j 0).toNat 0<=1048576)) (fun z=>[(12, .int .i64 (z.1:Int)),(11, .bool z.2)]) (fun z=>Hu c r c.value (wR c r x) c.sent (bR c.faulty (r.send.take z.1))) (fun z=>r.send.length-z.1) (0,true) ⟨Nat.zero_le _,mw (fun j hj=>by dsimp only at hj;omega)⟩ ?_;conv=>whnf
 refine⟨sI,?_⟩
 rintro⟨k,b⟩ ⟨hk,hb⟩
 dsimp only at hk hb⊢
 cases b
 ·conv=>whnf
  refine ag ?_ ?_<;>(intro g1;conv=>whnf)
  ·have hm:=hse k (by omega)
   have hbb:=fV (r.send.take k) c.faulty 1048576 (i5 h.sent.2) (r.send.getD k 0).toNat
   have htl:(r.send.take k).length<=60:=by rw[List.length_take];omega
   have hup:=gt (l:=c.faulty) (ms:=r.send) (k:=k) (by omega)
   refine iA hcor ?_
   conv=>whnf
   refine dI ?_
   conv=>whnf
   refine nI ?_
   rw[tN]
   conv=>whnf
   refine nI ?_
   conv=>whnf
   refine aI ?_
   conv=>whnf
   refine nI ?_
   conv=>whnf
   refine ap _ rfl ?_
   rw[<-hup]
   conv=>whnf
   refine dI ?_
   conv=>whnf
   repeat' ((first|refine nI ?_|refine aI ?_|refine tI ?_|refine fI ?_|fail);conv=>whnf)
   exact⟨(k+1,false),sI,⟨by dsimp only;omega,rA (fun hh=>mW hb (fun j hj=>hh j (by omega)))⟩,by dsimp only;omega⟩
  ·obtain rfl:k=r.send.length:=by omega
   rw[List.take_length]
   have hap:¬kq c r x:=by unfold kq;rw[if_neg hcor];exact mW hb
   refine⟨?_,rfl⟩
   rw[decide_eq_false hap,qE hcor,if_pos hwr]
   rfl
 ·conv=>whnf
  refine ag ?_ ?_<;>(intro g1;conv=>whnf)
  ·have hm:=hse k (by omega)
   have hbb:=fV (r.send.take k) c.faulty 1048576 (i5 h.sent.2) (r.send.getD k 0).toNat
   have htl:(r.send.take k).length<=60:=by rw[List.length_take];omega
   have hup:=gt (l:=c.faulty) (ms:=r.send) (k:=k) (by omega)
   refine iA hcor ?_
   conv=>whnf
   refine dI ?_
   conv=>whnf
   refine nI ?_
   rw[tN]
   conv=>whnf
   refine nI ?_
   conv=>whnf
   refine aI ?_
   conv=>whnf
   refine nI ?_
   conv=>whnf
   refine ap _ rfl ?_
   rw[<-hup]
   conv=>whnf
   refine dI ?_
   conv=>whnf
   refine nI ?_
   rw[tN]
   conv=>whnf
   refine nI ?_
   conv=>whnf
   refine ag ?_ ?_<;>(intro g2;conv=>whnf)
   ·repeat' ((first|refine nI ?_|refine aI ?_|refine tI ?_|refine fI ?_|fail);conv=>whnf)
    exact⟨(k+1,true),sI,⟨by dsimp only;omega,mw (Bk (hb.1 rfl) g2)⟩,by dsimp only;omega⟩
   ·repeat' ((first|refine nI ?_|refine aI ?_|refine tI ?_|refine fI ?_|fail);conv=>whnf)
    exact⟨(k+1,false),sI,⟨by dsimp only;omega,rA (fun hh=>g2 (hh k (by omega)))⟩,by dsimp only;omega⟩
  ·obtain rfl:k=r.send.length:=by omega
   rw[List.take_length]
   have hap:kq c r x:=by unfold kq;rw[if_neg hcor];exact hb.1 rfl
   refine⟨?_,rfl⟩
   rw[decide_eq_true hap,qE hcor,if_pos hwr]
   rfl
theorem Bl (p:an) (s:aC) (c:ay) (x:cj) (h:dk p s c) (he:iZ p s c x false) (hk1:K1 p x):ab Tryz.prog 276 [.agg (aB p), .agg (bd c), .agg (ef x)] (fun u=>u= .tup [.agg (bd (d9 c (p.rules.getD x.rule.toNat aq) x)), .bool (decide (kq c (p.rules.getD x.rule.toNat aq) x))]):=by
 by_cases hcor:x.process<c.correct
 ·exact yi p s c x h he (.inl hk1.1) hk1.2 hcor
 ·exact yj p s c x h he (.inl hk1.1) hk1.2 hcor
theorem Bm (p:an) (s:aC) (c:ay) (x:cj) (hp:¬cp p) (hw:bh c=false) (h1:bW p s c=0) (hn:¬iZ p s c x false):ab Tryz.prog 235 [.agg (aB p), .agg (bv s), .agg (bd c), .agg (ef x)] (fun u=>u= .tup [.agg (bd aX), .int .i64 9]):=by
 refine ab.sub (R:=fun u=>u= .tup [.agg Bg, .int .i64 9]) ?_ (by rintro _ rfl;exact⟨_,rfl,aa,rfl⟩)
 have h:=dk.of hp hw h1
 refine ab.intro ac ae Tryz.func235 rfl (by decide) ?_;(conv=>whnf)
 refine ak rfl ?_
 conv=>whnf
 refine ak rfl ?_
 conv=>whnf
 refine ak rfl ?_
 conv=>whnf
 refine ak rfl ?_
 conv=>whnf
 (refine oP (fS p s c hp hw) ?_;conv=>whnf)
 refine fI ?_
 conv=>whnf
 refine dC (lO p s c x false h) (fun _=>?_) (fun _=>?_)<;>(conv=>whnf)
 ·rename_i he;exact absurd he hn
 exact⟨rfl,rfl⟩
theorem Bn (p:an) (s:aC) (c:ay) (x:cj) (hp:¬cp p) (hw:bh c=false) (h1:bW p s c=0) (he:iZ p s c x false) (hk1:K1 p x) (ha:kq c (p.rules.getD x.rule.toNat aq) x):ab Tryz.prog 235 [.agg (aB p), .agg (bv s), .agg (bd c), .agg (ef x)] (fun u=>u= .tup [.agg (bd (d9 c (p.rules.getD x.rule.toNat aq) x)), .int .i64 0]):=by
 have h:=dk.of hp hw h1
 refine ab.intro ac ae Tryz.func235 rfl (by decide) ?_;(conv=>whnf)
 refine ak rfl ?_
 conv=>whnf
 refine ak rfl ?_
 conv=>whnf
 refine ak rfl ?_
 conv=>whnf
 refine ak rfl ?_
 conv=>whnf
 (refine oP (fS p s c hp hw) ?_;conv=>whnf)
 refine fI ?_
 conv=>whnf
 refine dC (lO p s c x false h) (fun _=>?_) (fun _=>?_)<;>(conv=>whnf)
 case refine_2=>rename_i hn;exact absurd he hn
 have hA:=Bl p s c x h he hk1
 rw[decide_eq_true ha] at hA
 (refine oP (hA) ?_;conv=>whnf)
 exact⟨rfl,rfl⟩
theorem Bo (p:an) (s:aC) (c:ay) (x:cj) (hp:¬cp p) (hw:bh c=false) (h1:bW p s c=0) (he:iZ p s c x false) (hk1:K1 p x) (ha:¬kq c (p.rules.getD x.rule.toNat aq) x):ab Tryz.prog 235 [.agg (aB p), .agg (bv s), .agg (bd c), .agg (ef x)] (fun u=>u= .tup [.agg (bd aX), .int .i64 4]):=by
 refine ab.sub (R:=fun u=>u= .tup [.agg Bg, .int .i64 4]) ?_ (by rintro _ rfl;exact⟨_,rfl,aa,rfl⟩)
 have h:=dk.of hp hw h1
 refine ab.intro ac ae Tryz.func235 rfl (by decide) ?_;(conv=>whnf)
 refine ak rfl ?_
 conv=>whnf
 refine ak rfl ?_
 conv=>whnf
 refine ak rfl ?_
 conv=>whnf
 refine ak rfl ?_
 conv=>whnf
 (refine oP (fS p s c hp hw) ?_;conv=>whnf)
 refine fI ?_
 conv=>whnf
 refine dC (lO p s c x false h) (fun _=>?_) (fun _=>?_)<;>(conv=>whnf)
 case refine_2=>rename_i hn;exact absurd he hn
 have hA:=Bl p s c x h he hk1
 rw[decide_eq_false ha] at hA
 (refine oP (hA) ?_;conv=>whnf)
 exact⟨rfl,rfl⟩
end Go.Proofs.YtekmminpfhacpaaGreatDoor
