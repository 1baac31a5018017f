import Derived.Test.YtnjggjhkfncnlaaGreatDoorMN
import Derived.Test.YtnjggjhkfncnlaaGreatDoorM7
set_option linter.unusedVariables false
set_option linter.unusedSimpArgs false
namespace Go.Proofs.YtnjggjhkfncnlaaGreatDoor
set_option maxRecDepth 100000
set_option maxHeartbeats 16000000
def eH:List AV:=[.nilsl, .nilsl, .int .i64 0, .nilsl, .nilsl, .int .i64 0]
def JW (c:aR) (r:bp) (x:dH):AV->aj->Prop:=fun u M=>(ld c r x/\KP 1001 1002 1003 1004 (iZ c r x) 0 u M)\/(¬ld c r x/\u= .tup [.agg eH, .int .i64 4])
def KQ (c:aR) (v:Int):cn:=.box 36 [.row 1001 c.shape.length 1, .row 1002 c.states.length 1, .int .i64 c.correct, .row 1003 c.sent.length 1, .row 1004 c.faulty.length 1, .int .i64 v]
def KR:cn:=.box 36 eH
def KS (r:bp):cn:=.box 143 (dF r)
def KT (c:aR) (r:bp) (st se fa:List Int):List (Nat×cn):=[(4,KR),(6,KS r),(7,KQ c c.value),(1001,bv c.shape),(1002,bv st),(1003,bv se),(1004,bv fa)]
theorem tD {a b d e:Nat} {c:aR} {n1 n2 n3 n4:Nat} {k v:Int} (h1:n1=c.shape.length) (h2:n2=c.states.length) (h3:n3=c.sent.length) (h4:n4=c.faulty.length) (h5:k=c.correct) (h6:v=c.value):
  AV.tup [.agg [.row a n1 1, .row b n2 1, .int .i64 k, .row d n3 1, .row e n4 1, .int .i64 v], .int .i64 0]= .tup [z9 a b d e c, .int .i64 0]:=by
 subst h1;subst h2;subst h3;subst h4;subst h5;subst h6;rfl
theorem r6 {c:aR} {r:bp} {x:dH} (h:x.process<c.correct):iZ c r x=⟨c.shape,yF c r x,c.correct,cu c.sent r.send,c.faulty,if r.write=-1 then c.value else r.write⟩:=by
 unfold iZ;rw[if_pos h,if_pos h]
theorem r7 {c:aR} {r:bp} {x:dH} (h:¬x.process<c.correct):iZ c r x=⟨c.shape,yF c r x,c.correct,c.sent,cu c.faulty r.send,if r.write=-1 then c.value else r.write⟩:=by
 unfold iZ;rw[if_neg h,if_neg h]
theorem Du (p:au) (s:bA) (c:aR) (x:dH) (h:gu p s c) (he:j6 p s c x false) (hk0:(p.rules.getD x.rule.toNat ar).kind=1\/(p.rules.getD x.rule.toNat ar).kind=4) (hcor0:x.process<c.correct):ak Tryz.prog 124 [.agg (pU p s c), .agg (de x)] (aj.ofL []) (JW c (p.rules.getD x.rule.toNat ar) x):=by
 have hle:=b7 h.big
 have hc:=b8 h.wide
 obtain⟨hin,hen⟩:=he
 have hR:=dG h.val (i:=x.rule.toNat) (by omega)
 have hB:=fm h.big (j:=x.rule.toNat) (by omega)
 have hsn:=h.vc.snl
 have hfa:=h.vc.fal
 have hsta:=h.vc.sta
 have hco:0<=c.correct/\c.correct<=8:=by
  have:=h.vc.cor
  have:=h.sz
  omega
 refine ak.intro ac ag [] Tryz.func124 rfl (by decide) ?_
 conv=>whnf
 refine al rfl ?_
 conv=>whnf
 refine al rfl ?_
 conv=>whnf
 refine nI ?_
 generalize p.rules.getD x.rule.toNat ar=r at hen hR hB hk0
 have hcor:=hcor0
 have hbr:=fE hB
 have hrd:=hR.read
 have hfit:=hR.fit
 unfold fe at hfit
 have hse:=hR.send
 conv=>whnf
 refine ak.news 400 (Aa 5 9 13 17) (tB c) (qY c) (Ds c h.wide) (aa) rfl FB ?_
 conv=>whnf
 refine nI ?_
 conv=>whnf
 refine ap _ rfl ?_
 conv=>whnf
 have hpl:x.process.toNat<c.states.length:=by omega
 have hpc:((x.process.toNat:Nat):Int)=x.process:=by omega
 have k14:=hk0
 have hst:c.states.set x.process.toNat r.dst=yF c r x:=yG (by simp) fun j hj=>by
  rw[c5]
  unfold Gm
  by_cases e:x.process.toNat=j
  ·rw[if_pos ⟨e,by omega⟩,if_pos (by omega)]
  ·rw[if_neg (fun h=>e h.1),if_neg (by omega),if_neg (by omega),if_neg (by omega)]
 rw[hst]
 repeat' ((first|refine nI ?_|refine aI ?_|refine tI ?_|refine fI ?_|fail);conv=>whnf)
 repeat' ((first|refine nI ?_|refine aI ?_|refine tI ?_|refine fI ?_|fail);conv=>whnf)
 refine aH.loopF ac ag (fun k:Nat=>k<=r.send.length/\∀j,j<k->(cu c.sent (r.send.take (j+1))).getD (r.send.getD j 0).toNat 0<=1048576) (fun k=>[(79, .int .i64 (k:Int))]) (fun k=>KT c r (yF c r x) (cu c.sent (r.send.take k)) c.faulty) (fun k=>r.send.length-k) 0 ⟨by omega,fun j hj=>by omega⟩ ?_;conv=>whnf
 refine⟨sI,?_⟩
 rintro k ⟨hk,ha⟩
 conv=>whnf
 refine ah ?_ ?_<;>(intro g1;conv=>whnf)
 ·have hm:=hse k (by omega)
  have hb:=jN (r.send.take k) c.sent 1048576 (jO h.sent.1) (r.send.getD k 0).toNat
  have htl:(r.send.take k).length<=60:=by rw[List.length_take];omega
  have hup:=ie (l:=c.sent) (ms:=r.send) (k:=k) (by omega)
  refine nI ?_
  rw[tN]
  conv=>whnf
  refine nI ?_
  conv=>whnf
  refine aI ?_
  conv=>whnf
  refine nI ?_
  conv=>whnf
  refine ap _ rfl ?_
  rw[<-hup]
  conv=>whnf
  refine nI ?_
  conv=>whnf
  refine ah ?_ ?_<;>(intro g2;conv=>whnf)
  ·exact .inr ⟨fun hap=>by unfold ld at hap;rw[if_pos hcor] at hap;have:=hap k (by omega);omega,rfl⟩
  ·repeat' ((first|refine nI ?_|refine aI ?_|refine tI ?_|refine fI ?_|fail);conv=>whnf)
   refine⟨k+1,sI,⟨by omega,fun j hj=>?_⟩,by dsimp only;omega⟩
   by_cases e:j=k
   ·subst e;omega
   ·exact ha j (by omega)
 ·obtain rfl:k=r.send.length:=by omega
  rw[List.take_length]
  have hap:ld c r x:=by unfold ld;rw[if_pos hcor];exact ha
  by_cases hwr:r.write=-1
  ·repeat' ((first|refine nI ?_|refine aI ?_|refine tI ?_|refine fI ?_|fail);conv=>whnf)
   refine .inl ⟨hap,?_⟩
   rw[r6 hcor,if_pos hwr]
   exact⟨tD rfl (gN _ _ _).symm (ee _ _).symm rfl rfl rfl,rfl,rfl,rfl,rfl⟩
  ·repeat' ((first|refine nI ?_|refine aI ?_|refine tI ?_|refine fI ?_|fail);conv=>whnf)
   refine .inl ⟨hap,?_⟩
   rw[r6 hcor,if_neg hwr]
   exact⟨tD rfl (gN _ _ _).symm (ee _ _).symm rfl rfl rfl,rfl,rfl,rfl,rfl⟩
theorem Dv (p:au) (s:bA) (c:aR) (x:dH) (h:gu p s c) (he:j6 p s c x false) (hk0:(p.rules.getD x.rule.toNat ar).kind=1\/(p.rules.getD x.rule.toNat ar).kind=4) (hcor0:¬x.process<c.correct):ak Tryz.prog 124 [.agg (pU p s c), .agg (de x)] (aj.ofL []) (JW c (p.rules.getD x.rule.toNat ar) x):=by
 have hle:=b7 h.big
 have hc:=b8 h.wide
 obtain⟨hin,hen⟩:=he
 have hR:=dG h.val (i:=x.rule.toNat) (by omega)
 have hB:=fm h.big (j:=x.rule.toNat) (by omega)
 have hsn:=h.vc.snl
 have hfa:=h.vc.fal
 have hsta:=h.vc.sta
 have hco:0<=c.correct/\c.correct<=8:=by
  have:=h.vc.cor
  have:=h.sz
  omega
 refine ak.intro ac ag [] Tryz.func124 rfl (by decide) ?_
 conv=>whnf
 refine al rfl ?_
 conv=>whnf
 refine al rfl ?_
 conv=>whnf
 refine nI ?_
 generalize p.rules.getD x.rule.toNat ar=r at hen hR hB hk0
 have hcor:=hcor0
 have hbr:=fE hB
 have hrd:=hR.read
 have hfit:=hR.fit
 unfold fe at hfit
 have hse:=hR.send
 conv=>whnf
 refine ak.news 400 (Aa 5 9 13 17) (tB c) (qY c) (Ds c h.wide) (aa) rfl FB ?_
 conv=>whnf
 refine nI ?_
 conv=>whnf
 refine ap _ rfl ?_
 conv=>whnf
 have hpl:x.process.toNat<c.states.length:=by omega
 have hpc:((x.process.toNat:Nat):Int)=x.process:=by omega
 have k14:=hk0
 have hst:c.states.set x.process.toNat r.dst=yF c r x:=yG (by simp) fun j hj=>by
  rw[c5]
  unfold Gm
  by_cases e:x.process.toNat=j
  ·rw[if_pos ⟨e,by omega⟩,if_pos (by omega)]
  ·rw[if_neg (fun h=>e h.1),if_neg (by omega),if_neg (by omega),if_neg (by omega)]
 rw[hst]
 repeat' ((first|refine nI ?_|refine aI ?_|refine tI ?_|refine fI ?_|fail);conv=>whnf)
 repeat' ((first|refine nI ?_|refine aI ?_|refine tI ?_|refine fI ?_|fail);conv=>whnf)
 refine aH.loopF ac ag (fun k:Nat=>k<=r.send.length/\∀j,j<k->(cu c.faulty (r.send.take (j+1))).getD (r.send.getD j 0).toNat 0<=1048576) (fun k=>[(79, .int .i64 (k:Int))]) (fun k=>KT c r (yF c r x) c.sent (cu c.faulty (r.send.take k))) (fun k=>r.send.length-k) 0 ⟨by omega,fun j hj=>by omega⟩ ?_;conv=>whnf
 refine⟨sI,?_⟩
 rintro k ⟨hk,ha⟩
 conv=>whnf
 refine ah ?_ ?_<;>(intro g1;conv=>whnf)
 ·have hm:=hse k (by omega)
  have hb:=jN (r.send.take k) c.faulty 1048576 (jO h.sent.2) (r.send.getD k 0).toNat
  have htl:(r.send.take k).length<=60:=by rw[List.length_take];omega
  have hup:=ie (l:=c.faulty) (ms:=r.send) (k:=k) (by omega)
  refine nI ?_
  rw[tN]
  conv=>whnf
  refine nI ?_
  conv=>whnf
  refine aI ?_
  conv=>whnf
  refine nI ?_
  conv=>whnf
  refine ap _ rfl ?_
  rw[<-hup]
  conv=>whnf
  refine nI ?_
  conv=>whnf
  refine ah ?_ ?_<;>(intro g2;conv=>whnf)
  ·exact .inr ⟨fun hap=>by unfold ld at hap;rw[if_neg hcor] at hap;have:=hap k (by omega);omega,rfl⟩
  ·repeat' ((first|refine nI ?_|refine aI ?_|refine tI ?_|refine fI ?_|fail);conv=>whnf)
   refine⟨k+1,sI,⟨by omega,fun j hj=>?_⟩,by dsimp only;omega⟩
   by_cases e:j=k
   ·subst e;omega
   ·exact ha j (by omega)
 ·obtain rfl:k=r.send.length:=by omega
  rw[List.take_length]
  have hap:ld c r x:=by unfold ld;rw[if_neg hcor];exact ha
  by_cases hwr:r.write=-1
  ·repeat' ((first|refine nI ?_|refine aI ?_|refine tI ?_|refine fI ?_|fail);conv=>whnf)
   refine .inl ⟨hap,?_⟩
   rw[r7 hcor,if_pos hwr]
   exact⟨tD rfl (gN _ _ _).symm rfl (ee _ _).symm rfl rfl,rfl,rfl,rfl,rfl⟩
  ·repeat' ((first|refine nI ?_|refine aI ?_|refine tI ?_|refine fI ?_|fail);conv=>whnf)
   refine .inl ⟨hap,?_⟩
   rw[r7 hcor,if_neg hwr]
   exact⟨tD rfl (gN _ _ _).symm rfl (ee _ _).symm rfl rfl,rfl,rfl,rfl,rfl⟩
def K1 (p:au) (x:dH):Prop:=(p.rules.getD x.rule.toNat ar).kind=1/\(p.rules.getD x.rule.toNat ar).write=-1
theorem Dw (p:au) (s:bA) (c:aR) (x:dH) (h:gu p s c) (he:j6 p s c x false) (hk1:K1 p x):ak Tryz.prog 124 [.agg (pU p s c), .agg (de x)] (aj.ofL []) (JW c (p.rules.getD x.rule.toNat ar) x):=by
 by_cases hcor:x.process<c.correct
 ·exact Du p s c x h he (.inl hk1.1) hcor
 ·exact Dv p s c x h he (.inl hk1.1) hcor
def JL (c:aR) (r:bp) (v:Int) (st se fa:List Int):List (Nat×cn):=[(6,KR),(8,KS r),(9,KQ c v),(1001,bv c.shape),(1002,bv st),(1003,bv se),(1004,bv fa)]
theorem Dx {l ms:List Int} {k:Nat} (ha:∀j,j<k->(cu l (ms.take (j+1))).getD (ms.getD j 0).toNat 0<=1048576) (h:(cu l (ms.take (k+1))).getD (ms.getD k 0).toNat 0<=1048576):∀j,j<k+1->(cu l (ms.take (j+1))).getD (ms.getD j 0).toNat 0<=1048576:=fun j hj=>by
 by_cases e:j=k
 ·subst e;exact h
 ·exact ha j (by omega)
theorem Ab (p:au) (s:bA) (c:aR) (x:dH) (h:gu p s c) (he:j6 p s c x false) (hk0:(p.rules.getD x.rule.toNat ar).kind=1\/(p.rules.getD x.rule.toNat ar).kind=4) (hwr0:(p.rules.getD x.rule.toNat ar).write=-1) (hcor0:x.process<c.correct):ab Tryz.prog 191 [.agg (aO p), .agg (aW c), .agg (de x)] (fun u=>u= .tup [.agg (aW (iZ c (p.rules.getD x.rule.toNat ar) x)), .bool (decide (ld c (p.rules.getD x.rule.toNat ar) x))]):=by
 have hle:=b7 h.big
 have hc:=b8 h.wide
 obtain⟨hin,hen⟩:=he
 have hR:=dG h.val (i:=x.rule.toNat) (by omega)
 have hB:=fm h.big (j:=x.rule.toNat) (by omega)
 have hsn:=h.vc.snl
 have hfa:=h.vc.fal
 have hsta:=h.vc.sta
 refine ab.intro ac ag Tryz.func191 rfl (by decide) ?_;(conv=>whnf)
 refine al rfl ?_
 conv=>whnf
 refine al rfl ?_
 conv=>whnf
 refine al rfl ?_
 conv=>whnf
 refine Bf (by decide+kernel) ?_
 conv=>whnf
 refine nI ?_
 generalize p.rules.getD x.rule.toNat ar=r at hen hR hB hk0 hwr0⊢
 have hwr:=hwr0
 have hcor:=hcor0
 have hbr:=fE hB
 have hrd:=hR.read
 have hfit:=hR.fit
 unfold fe at hfit
 have hse:=hR.send
 conv=>whnf
 refine nm 400 (Aa 1001 1002 1003 1004) (tB c) (qY c) (Gk c h.wide) (aa) rfl rfl FB ?_
 conv=>whnf
 have hpl:x.process.toNat<c.states.length:=by omega
 have hpc:((x.process.toNat:Nat):Int)=x.process:=by omega
 have k14:=hk0
 have hst:c.states.set x.process.toNat r.dst=yF c r x:=yG (by simp) fun j hj=>by
  rw[c5]
  unfold Gm
  by_cases e:x.process.toNat=j
  ·rw[if_pos ⟨e,by omega⟩,if_pos (by omega)]
  ·rw[if_neg (fun h=>e h.1),if_neg (by omega),if_neg (by omega),if_neg (by omega)]
 repeat' ((first|refine nI ?_|refine aI ?_|refine tI ?_|refine fI ?_|fail);conv=>whnf)
 refine ap _ rfl ?_
 rw[hst]
 conv=>whnf
 refine fI ?_
 conv=>whnf
 refine aH.loopF ac ag (fun z:Nat×Bool=>z.1<=r.send.length/\(z.2=true↔∀j,j<z.1->(cu c.sent (r.send.take (j+1))).getD (r.send.getD j 0).toNat 0<=1048576)) (fun z=>[(12, .int .i64 (z.1:Int)),(11, .bool z.2)]) (fun z=>JL c r c.value (yF c r x) (cu c.sent (r.send.take z.1)) c.faulty) (fun z=>r.send.length-z.1) (0,true) ⟨Nat.zero_le _,nz (fun j hj=>by dsimp only at hj;omega)⟩ ?_;conv=>whnf
 refine⟨sI,?_⟩
 rintro⟨k,b⟩ ⟨hk,hb⟩
 dsimp only at hk hb⊢
 cases b
 ·conv=>whnf
  refine ah ?_ ?_<;>(intro g1;conv=>whnf)
  ·have hm:=hse k (by omega)
   have hbb:=jN (r.send.take k) c.sent 1048576 (jO h.sent.1) (r.send.getD k 0).toNat
   have htl:(r.send.take k).length<=60:=by rw[List.length_take];omega
   have hup:=ie (l:=c.sent) (ms:=r.send) (k:=k) (by omega)
   refine da hcor ?_
   conv=>whnf
   refine dI ?_
   conv=>whnf
   refine nI ?_
   rw[tN]
   conv=>whnf
   refine nI ?_
   conv=>whnf
   refine aI ?_
   conv=>whnf
   refine nI ?_
   conv=>whnf
   refine ap _ rfl ?_
   rw[<-hup]
   conv=>whnf
   refine dI ?_
   conv=>whnf
   repeat' ((first|refine nI ?_|refine aI ?_|refine tI ?_|refine fI ?_|fail);conv=>whnf)
   exact⟨(k+1,false),sI,⟨by dsimp only;omega,s7 (fun hh=>oo hb (fun j hj=>hh j (by omega)))⟩,by dsimp only;omega⟩
  ·obtain rfl:k=r.send.length:=by omega
   rw[List.take_length]
   have hap:¬ld c r x:=by unfold ld;rw[if_pos hcor];exact oo hb
   refine⟨?_,rfl⟩
   rw[decide_eq_false hap,r6 hcor,if_pos hwr]
   rfl
 ·conv=>whnf
  refine ah ?_ ?_<;>(intro g1;conv=>whnf)
  ·have hm:=hse k (by omega)
   have hbb:=jN (r.send.take k) c.sent 1048576 (jO h.sent.1) (r.send.getD k 0).toNat
   have htl:(r.send.take k).length<=60:=by rw[List.length_take];omega
   have hup:=ie (l:=c.sent) (ms:=r.send) (k:=k) (by omega)
   refine da hcor ?_
   conv=>whnf
   refine dI ?_
   conv=>whnf
   refine nI ?_
   rw[tN]
   conv=>whnf
   refine nI ?_
   conv=>whnf
   refine aI ?_
   conv=>whnf
   refine nI ?_
   conv=>whnf
   refine ap _ rfl ?_
   rw[<-hup]
   conv=>whnf
   refine dI ?_
   conv=>whnf
   refine nI ?_
   rw[tN]
   conv=>whnf
   refine nI ?_
   conv=>whnf
   refine ah ?_ ?_<;>(intro g2;conv=>whnf)
   ·repeat' ((first|refine nI ?_|refine aI ?_|refine tI ?_|refine fI ?_|fail);conv=>whnf)
    exact⟨(k+1,true),sI,⟨by dsimp only;omega,nz (Dx (hb.1 rfl) g2)⟩,by dsimp only;omega⟩
   ·repeat' ((first|refine nI ?_|refine aI ?_|refine tI ?_|refine fI ?_|fail);conv=>whnf)
    exact⟨(k+1,false),sI,⟨by dsimp only;omega,s7 (fun hh=>g2 (hh k (by omega)))⟩,by dsimp only;omega⟩
  ·obtain rfl:k=r.send.length:=by omega
   rw[List.take_length]
   have hap:ld c r x:=by unfold ld;rw[if_pos hcor];exact hb.1 rfl
   refine⟨?_,rfl⟩
   rw[decide_eq_true hap,r6 hcor,if_pos hwr]
   rfl
theorem Ac (p:au) (s:bA) (c:aR) (x:dH) (h:gu p s c) (he:j6 p s c x false) (hk0:(p.rules.getD x.rule.toNat ar).kind=1\/(p.rules.getD x.rule.toNat ar).kind=4) (hwr0:(p.rules.getD x.rule.toNat ar).write=-1) (hcor0:¬x.process<c.correct):ab Tryz.prog 191 [.agg (aO p), .agg (aW c), .agg (de x)] (fun u=>u= .tup [.agg (aW (iZ c (p.rules.getD x.rule.toNat ar) x)), .bool (decide (ld c (p.rules.getD x.rule.toNat ar) x))]):=by
 have hle:=b7 h.big
 have hc:=b8 h.wide
 obtain⟨hin,hen⟩:=he
 have hR:=dG h.val (i:=x.rule.toNat) (by omega)
 have hB:=fm h.big (j:=x.rule.toNat) (by omega)
 have hsn:=h.vc.snl
 have hfa:=h.vc.fal
 have hsta:=h.vc.sta
 refine ab.intro ac ag Tryz.func191 rfl (by decide) ?_;(conv=>whnf)
 refine al rfl ?_
 conv=>whnf
 refine al rfl ?_
 conv=>whnf
 refine al rfl ?_
 conv=>whnf
 refine Bf (by decide+kernel) ?_
 conv=>whnf
 refine nI ?_
 generalize p.rules.getD x.rule.toNat ar=r at hen hR hB hk0 hwr0⊢
 have hwr:=hwr0
 have hcor:=hcor0
 have hbr:=fE hB
 have hrd:=hR.read
 have hfit:=hR.fit
 unfold fe at hfit
 have hse:=hR.send
 conv=>whnf
 refine nm 400 (Aa 1001 1002 1003 1004) (tB c) (qY c) (Gk c h.wide) (aa) rfl rfl FB ?_
 conv=>whnf
 have hpl:x.process.toNat<c.states.length:=by omega
 have hpc:((x.process.toNat:Nat):Int)=x.process:=by omega
 have k14:=hk0
 have hst:c.states.set x.process.toNat r.dst=yF c r x:=yG (by simp) fun j hj=>by
  rw[c5]
  unfold Gm
  by_cases e:x.process.toNat=j
  ·rw[if_pos ⟨e,by omega⟩,if_pos (by omega)]
  ·rw[if_neg (fun h=>e h.1),if_neg (by omega),if_neg (by omega),if_neg (by omega)]
 repeat' ((first|refine nI ?_|refine aI ?_|refine tI ?_|refine fI ?_|fail);conv=>whnf)
 refine ap _ rfl ?_
 rw[hst]
 conv=>whnf
 refine fI ?_
 conv=>whnf
 refine aH.loopF ac ag (fun z:Nat×Bool=>z.1<=r.send.length/\(z.2=true↔∀j,j<z.1->(cu c.faulty (r.send.take (j+1))).getD (r.send.getD j 0).toNat 0<=1048576)) (fun z=>[(12, .int .i64 (z.1:Int)),(11, .bool z.2)]) (fun z=>JL c r c.value (yF c r x) c.sent (cu c.faulty (r.send.take z.1))) (fun z=>r.send.length-z.1) (0,true) ⟨Nat.zero_le _,nz (fun j hj=>by dsimp only at hj;omega)⟩ ?_;conv=>whnf
 refine⟨sI,?_⟩
 rintro⟨k,b⟩ ⟨hk,hb⟩
 dsimp only at hk hb⊢
 cases b
 ·conv=>whnf
  refine ah ?_ ?_<;>(intro g1;conv=>whnf)
  ·have hm:=hse k (by omega)
   have hbb:=jN (r.send.take k) c.faulty 1048576 (jO h.sent.2) (r.send.getD k 0).toNat
   have htl:(r.send.take k).length<=60:=by rw[List.length_take];omega
   have hup:=ie (l:=c.faulty) (ms:=r.send) (k:=k) (by omega)
   refine j' hcor ?_
   conv=>whnf
   refine dI ?_
   conv=>whnf
   refine nI ?_
   rw[tN]
   conv=>whnf
   refine nI ?_
   conv=>whnf
   refine aI ?_
   conv=>whnf
   refine nI ?_
   conv=>whnf
   refine ap _ rfl ?_
   rw[<-hup]
   conv=>whnf
   refine dI ?_
   conv=>whnf
   repeat' ((first|refine nI ?_|refine aI ?_|refine tI ?_|refine fI ?_|fail);conv=>whnf)
   exact⟨(k+1,false),sI,⟨by dsimp only;omega,s7 (fun hh=>oo hb (fun j hj=>hh j (by omega)))⟩,by dsimp only;omega⟩
  ·obtain rfl:k=r.send.length:=by omega
   rw[List.take_length]
   have hap:¬ld c r x:=by unfold ld;rw[if_neg hcor];exact oo hb
   refine⟨?_,rfl⟩
   rw[decide_eq_false hap,r7 hcor,if_pos hwr]
   rfl
 ·conv=>whnf
  refine ah ?_ ?_<;>(intro g1;conv=>whnf)
  ·have hm:=hse k (by omega)
   have hbb:=jN (r.send.take k) c.faulty 1048576 (jO h.sent.2) (r.send.getD k 0).toNat
   have htl:(r.send.take k).length<=60:=by rw[List.length_take];omega
   have hup:=ie (l:=c.faulty) (ms:=r.send) (k:=k) (by omega)
   refine j' hcor ?_
   conv=>whnf
   refine dI ?_
   conv=>whnf
   refine nI ?_
   rw[tN]
   conv=>whnf
   refine nI ?_
   conv=>whnf
   refine aI ?_
   conv=>whnf
   refine nI ?_
   conv=>whnf
   refine ap _ rfl ?_
   rw[<-hup]
   conv=>whnf
   refine dI ?_
   conv=>whnf
   refine nI ?_
   rw[tN]
   conv=>whnf
   refine nI ?_
   conv=>whnf
   refine ah ?_ ?_<;>(intro g2;conv=>whnf)
   ·repeat' ((first|refine nI ?_|refine aI ?_|refine tI ?_|refine fI ?_|fail);conv=>whnf)
    exact⟨(k+1,true),sI,⟨by dsimp only;omega,nz (Dx (hb.1 rfl) g2)⟩,by dsimp only;omega⟩
   ·repeat' ((first|refine nI ?_|refine aI ?_|refine tI ?_|refine fI ?_|fail);conv=>whnf)
    exact⟨(k+1,false),sI,⟨by dsimp only;omega,s7 (fun hh=>g2 (hh k (by omega)))⟩,by dsimp only;omega⟩
  ·obtain rfl:k=r.send.length:=by omega
   rw[List.take_length]
   have hap:ld c r x:=by unfold ld;rw[if_neg hcor];exact hb.1 rfl
   refine⟨?_,rfl⟩
   rw[decide_eq_true hap,r7 hcor,if_pos hwr]
   rfl
theorem Dy (p:au) (s:bA) (c:aR) (x:dH) (h:gu p s c) (he:j6 p s c x false) (hk1:K1 p x):ab Tryz.prog 191 [.agg (aO p), .agg (aW c), .agg (de x)] (fun u=>u= .tup [.agg (aW (iZ c (p.rules.getD x.rule.toNat ar) x)), .bool (decide (ld c (p.rules.getD x.rule.toNat ar) x))]):=by
 by_cases hcor:x.process<c.correct
 ·exact Ab p s c x h he (.inl hk1.1) hk1.2 hcor
 ·exact Ac p s c x h he (.inl hk1.1) hk1.2 hcor
theorem Dz (p:au) (s:bA) (c:aR) (x:dH) (hp:¬fD p) (hw:ct c=false) (h1:bK p s c=0) (hn:¬j6 p s c x false):ab Tryz.prog 177 [.agg (aO p), .agg (cj s), .agg (aW c), .agg (de x)] (fun u=>u= .tup [.agg (aW fC), .int .i64 9]):=by
 refine ab.sub (R:=fun u=>u= .tup [.agg eH, .int .i64 9]) ?_ (by rintro _ rfl;exact⟨_,rfl,aa,rfl⟩)
 have h:=gu.of hp hw h1
 refine ab.intro ac ag Tryz.func177 rfl (by decide) ?_;(conv=>whnf)
 refine al rfl ?_
 conv=>whnf
 refine al rfl ?_
 conv=>whnf
 refine al rfl ?_
 conv=>whnf
 refine al rfl ?_
 conv=>whnf
 (refine oP (jF p s c hp hw) ?_;conv=>whnf)
 refine fI ?_
 conv=>whnf
 (refine oP (G0 p s c hw) ?_;conv=>whnf)
 refine dC (qo p s c x false h) (fun _=>?_) (fun _=>?_)<;>(conv=>whnf)
 ·rename_i he;exact absurd he hn
 exact⟨rfl,rfl⟩
theorem DA (p:au) (s:bA) (c:aR) (x:dH) (hp:¬fD p) (hw:ct c=false) (h1:bK p s c=0) (he:j6 p s c x false) (hk1:K1 p x):ak Tryz.prog 177 [.agg (aO p), .agg (cj s), .agg (aW c), .agg (de x)] (aj.ofL []) (JW c (p.rules.getD x.rule.toNat ar) x):=by
 have h:=gu.of hp hw h1
 refine ak.intro ac ag [] Tryz.func177 rfl (by decide) ?_
 conv=>whnf
 refine al rfl ?_
 conv=>whnf
 refine al rfl ?_
 conv=>whnf
 refine al rfl ?_
 conv=>whnf
 refine al rfl ?_
 conv=>whnf
 (refine oP (jF p s c hp hw) ?_;conv=>whnf)
 refine fI ?_
 conv=>whnf
 (refine oP (G0 p s c hw) ?_;conv=>whnf)
 refine dC (qo p s c x false h) (fun _=>?_) (fun _=>?_)<;>(conv=>whnf)
 case refine_2=>rename_i hn;exact absurd he hn
 have hA:=Dw p s c x h he hk1
 generalize p.rules.getD x.rule.toNat ar=r at hA⊢
 by_cases hap:ld c r x
 ·refine ak.news 400 (Aa 1001 1002 1003 1004) (tB (iZ c r x)) (.tup [qY (iZ c r x), .int .i64 0]) hA (aa) rfl (fun u M' hR=>?_) ?_
  ·rcases hR with ⟨_,hT⟩|⟨hn,_⟩
   ·exact JK u M' hT
   ·exact absurd hap hn
  conv=>whnf
  exact .inl ⟨hap,rfl,rfl,rfl,rfl,rfl⟩
 ·refine ak.news 400 [] [] (.tup [.agg eH, .int .i64 4]) hA (aa) rfl (fun u M' hR=>?_) ?_
  ·rcases hR with ⟨hy,_⟩|⟨_,rfl⟩
   ·exact absurd hy hap
   ·exact⟨trivial,aa⟩
  conv=>whnf
  exact .inr ⟨hap,rfl⟩
theorem DB (p:au) (s:bA) (c:aR) (x:dH) (hp:¬fD p) (hw:ct c=false) (h1:bK p s c=0) (he:j6 p s c x false) (hk1:K1 p x) (ha:¬ld c (p.rules.getD x.rule.toNat ar) x):ab Tryz.prog 177 [.agg (aO p), .agg (cj s), .agg (aW c), .agg (de x)] (fun u=>u= .tup [.agg (aW fC), .int .i64 4]):=by
 refine ab.sub (R:=fun u=>u= .tup [.agg eH, .int .i64 4]) ?_ (by rintro _ rfl;exact⟨_,rfl,aa,rfl⟩)
 refine ab.of_spec 5 ((DA p s c x hp hw h1 he hk1).mono fun u M hR=>?_)
 rcases hR with ⟨hy,_⟩|⟨_,rfl⟩
 ·exact absurd hy ha
 ·exact⟨rfl,rfl⟩
theorem DC (p:au) (s:bA) (c:aR) (x:dH) (hp:¬fD p) (hw:ct c=false) (h1:bK p s c=0) (hn:¬j6 p s c x false):ab Tryz.prog 114 [.agg (aO p), .agg (cj s), .agg (aW c), .agg (de x)] (fun u=>u= .tup [.agg (aW fC), .int .i64 9]):=by
 refine ab.sub (R:=fun u=>u= .tup [.agg eH, .int .i64 9]) ?_ (by rintro _ rfl;exact⟨_,rfl,aa,rfl⟩)
 have h:=gu.of hp hw h1
 refine ab.intro ac ag Tryz.func114 rfl (by decide) ?_;(conv=>whnf)
 refine al rfl ?_
 conv=>whnf
 refine al rfl ?_
 conv=>whnf
 refine al rfl ?_
 conv=>whnf
 refine al rfl ?_
 conv=>whnf
 (refine oP (jG p s c hp hw) ?_;conv=>whnf)
 refine fI ?_
 conv=>whnf
 refine dC (qp p s c x false h) (fun _=>?_) (fun _=>?_)<;>(conv=>whnf)
 ·rename_i he;exact absurd he hn
 exact⟨rfl,rfl⟩
theorem DD (p:au) (s:bA) (c:aR) (x:dH) (hp:¬fD p) (hw:ct c=false) (h1:bK p s c=0) (he:j6 p s c x false) (hk1:K1 p x) (ha:ld c (p.rules.getD x.rule.toNat ar) x):ab Tryz.prog 114 [.agg (aO p), .agg (cj s), .agg (aW c), .agg (de x)] (fun u=>u= .tup [.agg (aW (iZ c (p.rules.getD x.rule.toNat ar) x)), .int .i64 0]):=by
 have h:=gu.of hp hw h1
 refine ab.intro ac ag Tryz.func114 rfl (by decide) ?_;(conv=>whnf)
 refine al rfl ?_
 conv=>whnf
 refine al rfl ?_
 conv=>whnf
 refine al rfl ?_
 conv=>whnf
 refine al rfl ?_
 conv=>whnf
 (refine oP (jG p s c hp hw) ?_;conv=>whnf)
 refine fI ?_
 conv=>whnf
 refine dC (qp p s c x false h) (fun _=>?_) (fun _=>?_)<;>(conv=>whnf)
 case refine_2=>rename_i hn;exact absurd he hn
 have hA:=Dy p s c x h he hk1
 rw[decide_eq_true ha] at hA
 (refine oP (hA) ?_;conv=>whnf)
 exact⟨rfl,rfl⟩
theorem DE (p:au) (s:bA) (c:aR) (x:dH) (hp:¬fD p) (hw:ct c=false) (h1:bK p s c=0) (he:j6 p s c x false) (hk1:K1 p x) (ha:¬ld c (p.rules.getD x.rule.toNat ar) x):ab Tryz.prog 114 [.agg (aO p), .agg (cj s), .agg (aW c), .agg (de x)] (fun u=>u= .tup [.agg (aW fC), .int .i64 4]):=by
 refine ab.sub (R:=fun u=>u= .tup [.agg eH, .int .i64 4]) ?_ (by rintro _ rfl;exact⟨_,rfl,aa,rfl⟩)
 have h:=gu.of hp hw h1
 refine ab.intro ac ag Tryz.func114 rfl (by decide) ?_;(conv=>whnf)
 refine al rfl ?_
 conv=>whnf
 refine al rfl ?_
 conv=>whnf
 refine al rfl ?_
 conv=>whnf
 refine al rfl ?_
 conv=>whnf
 (refine oP (jG p s c hp hw) ?_;conv=>whnf)
 refine fI ?_
 conv=>whnf
 refine dC (qp p s c x false h) (fun _=>?_) (fun _=>?_)<;>(conv=>whnf)
 case refine_2=>rename_i hn;exact absurd he hn
 have hA:=Dy p s c x h he hk1
 rw[decide_eq_false ha] at hA
 (refine oP (hA) ?_;conv=>whnf)
 exact⟨rfl,rfl⟩
end Go.Proofs.YtnjggjhkfncnlaaGreatDoor
