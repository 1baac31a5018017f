import Derived.Test.YtblcpnmnibcbbaaGreatDoorMN
set_option linter.unusedVariables false
set_option linter.unusedSimpArgs false
namespace Go.Proofs.YtblcpnmnibcbbaaGreatDoor
set_option maxRecDepth 100000
set_option maxHeartbeats 16000000
def zc:List AV:=[.nilsl, .nilsl, .int .i64 0, .nilsl, .nilsl, .int .i64 0]
def El (c:ap) (r:cY) (x:be):AV->ah->Prop:=fun u M=>(bh c r x/\Jl 1001 1002 1003 1004 (cp c r x) 0 u M)\/(¬bh c r x/\u= .tup [.agg zc, .int .i64 4])
def Jn (c:ap) (v:Int):bj:=.box 38 [.row 1001 c.shape.length 1, .row 1002 c.states.length 1, .int .i64 c.correct, .row 1003 c.sent.length 1, .row 1004 c.faulty.length 1, .int .i64 v]
def Jo:bj:=.box 38 zc
def Jp (r:cY):bj:=.box 89 (iY r)
def Dl (c:ap) (r:cY) (st se fa:List Int):List (Nat×bj):=[(4,Jo),(6,Jp r),(7,Jn c c.value),(1001,cH c.shape),(1002,cH st),(1003,cH se),(1004,cH fa)]
theorem gc {p:aq} {s:aB} {c:ap} {r:cY} {x:be} {f:Bool} (h:Fm p s c r x f) (hk:r.kind=2\/r.kind=5):u5 c r x:=by
 have:=h.2.2
 unfold qR at this
 rw[if_pos hk] at this
 exact this.1
theorem ei {a b d e:Nat} {c:ap} {n1 n2 n3 n4:Nat} {k v:Int} (h1:n1=c.shape.length) (h2:n2=c.states.length) (h3:n3=c.sent.length) (h4:n4=c.faulty.length) (h5:k=c.correct) (h6:v=c.value):
  AV.tup [.agg [.row a n1 1, .row b n2 1, .int .i64 k, .row d n3 1, .row e n4 1, .int .i64 v], .int .i64 0]= .tup [wP a b d e c, .int .i64 0]:=by
 subst h1;subst h2;subst h3;subst h4;subst h5;subst h6;rfl
theorem dh {c:ap} {r:cY} {x:be} (h:x.process<c.correct):cp c r x=⟨c.shape,fD c r x,c.correct,aL c.sent r.send,c.faulty,if r.write=-1 then c.value else r.write⟩:=by
 unfold cp;rw[if_pos h,if_pos h]
theorem di {c:ap} {r:cY} {x:be} (h:¬x.process<c.correct):cp c r x=⟨c.shape,fD c r x,c.correct,c.sent,aL c.faulty r.send,if r.write=-1 then c.value else r.write⟩:=by
 unfold cp;rw[if_neg h,if_neg h]
theorem BS (p:aq) (s:aB) (c:ap) (x:be) (h:cK p s c) (he:cz p s c x false) (hk0:(p.rules.getD x.rule.toNat au).kind=1\/(p.rules.getD x.rule.toNat au).kind=4) (hcor0:x.process<c.correct):ar Tryz.prog 82 [.agg (gV p s c), .agg (cF x)] (ah.ofL []) (El c (p.rules.getD x.rule.toNat au) x):=by
 have hle:=aC h.big
 have hc:=aG h.wide
 obtain⟨hin,hen⟩:=he
 have hR:=aF h.val (i:=x.rule.toNat) (by omega)
 have hB:=aU h.big (j:=x.rule.toNat) (by omega)
 have hsn:=h.vc.snl
 have hfa:=h.vc.fal
 have hsta:=h.vc.sta
 have hco:0<=c.correct/\c.correct<=8:=by
  have:=h.vc.cor
  have:=h.sz
  omega
 refine ar.intro ab ac [] Tryz.func82 rfl (by decide) ?_
 conv=>whnf
 refine am rfl ?_
 conv=>whnf
 refine am rfl ?_
 conv=>whnf
 refine nI ?_
 generalize p.rules.getD x.rule.toNat au=r at hen hR hB hk0
 have hcor:=hcor0
 have hbr:=bo hB
 have hrd:=hR.read
 have hfit:=hR.fit
 unfold cb at hfit
 have hse:=hR.send
 conv=>whnf
 refine ar.news 400 (kD 5 9 13 17) (eW c) (eH c) (gW c h.wide) (ai) rfl fN ?_
 conv=>whnf
 refine nI ?_
 conv=>whnf
 refine ak _ rfl ?_
 conv=>whnf
 have hpl:x.process.toNat<c.states.length:=by omega
 have hpc:((x.process.toNat:Nat):Int)=x.process:=by omega
 have k14:=hk0
 have hst:c.states.set x.process.toNat r.dst=fD c r x:=dv (by simp) fun j hj=>by
  rw[ax]
  unfold lG
  by_cases e:x.process.toNat=j
  ·rw[if_pos ⟨e,by omega⟩,if_pos (by omega)]
  ·rw[if_neg (fun h=>e h.1),if_neg (by omega),if_neg (by omega),if_neg (by omega)]
 rw[hst]
 repeat' ((first|refine nI ?_|refine aI ?_|refine tI ?_|refine fI ?_|fail);conv=>whnf)
 repeat' ((first|refine nI ?_|refine aI ?_|refine tI ?_|refine fI ?_|fail);conv=>whnf)
 refine aR.loopF ab ac (fun k:Nat=>k<=r.send.length/\∀j,j<k->(aL c.sent (r.send.take (j+1))).getD (r.send.getD j 0).toNat 0<=1048576) (fun k=>[(79, .int .i64 (k:Int))]) (fun k=>Dl c r (fD c r x) (aL c.sent (r.send.take k)) c.faulty) (fun k=>r.send.length-k) 0 ⟨by omega,fun j hj=>by omega⟩ ?_;conv=>whnf
 refine⟨sI,?_⟩
 rintro k ⟨hk,ha⟩
 conv=>whnf
 refine ag ?_ ?_<;>(intro g1;conv=>whnf)
 ·have hm:=hse k (by omega)
  have hb:=aM (r.send.take k) c.sent 1048576 (aN h.sent.1) (r.send.getD k 0).toNat
  have htl:(r.send.take k).length<=60:=by rw[List.length_take];omega
  have hup:=aE (l:=c.sent) (ms:=r.send) (k:=k) (by omega)
  refine nI ?_
  rw[tN]
  conv=>whnf
  refine nI ?_
  conv=>whnf
  refine aI ?_
  conv=>whnf
  refine nI ?_
  conv=>whnf
  refine ak _ rfl ?_
  rw[<-hup]
  conv=>whnf
  refine nI ?_
  conv=>whnf
  refine ag ?_ ?_<;>(intro g2;conv=>whnf)
  ·exact .inr ⟨fun hap=>by unfold bh at hap;rw[if_pos hcor] at hap;have:=hap k (by omega);omega,rfl⟩
  ·repeat' ((first|refine nI ?_|refine aI ?_|refine tI ?_|refine fI ?_|fail);conv=>whnf)
   refine⟨k+1,sI,⟨by omega,fun j hj=>?_⟩,by dsimp only;omega⟩
   by_cases e:j=k
   ·subst e;omega
   ·exact ha j (by omega)
 ·obtain rfl:k=r.send.length:=by omega
  rw[List.take_length]
  have hap:bh c r x:=by unfold bh;rw[if_pos hcor];exact ha
  by_cases hwr:r.write=-1
  ·repeat' ((first|refine nI ?_|refine aI ?_|refine tI ?_|refine fI ?_|fail);conv=>whnf)
   refine .inl ⟨hap,?_⟩
   rw[dh hcor,if_pos hwr]
   exact⟨ei rfl (bT _ _ _).symm (bq _ _).symm rfl rfl rfl,rfl,rfl,rfl,rfl⟩
  ·repeat' ((first|refine nI ?_|refine aI ?_|refine tI ?_|refine fI ?_|fail);conv=>whnf)
   refine .inl ⟨hap,?_⟩
   rw[dh hcor,if_neg hwr]
   exact⟨ei rfl (bT _ _ _).symm (bq _ _).symm rfl rfl rfl,rfl,rfl,rfl,rfl⟩
theorem BT (p:aq) (s:aB) (c:ap) (x:be) (h:cK p s c) (he:cz p s c x false) (hk0:(p.rules.getD x.rule.toNat au).kind=2) (hcor0:x.process<c.correct):ar Tryz.prog 82 [.agg (gV p s c), .agg (cF x)] (ah.ofL []) (El c (p.rules.getD x.rule.toNat au) x):=by
 have hle:=aC h.big
 have hc:=aG h.wide
 obtain⟨hin,hen⟩:=he
 have hR:=aF h.val (i:=x.rule.toNat) (by omega)
 have hB:=aU h.big (j:=x.rule.toNat) (by omega)
 have hsn:=h.vc.snl
 have hfa:=h.vc.fal
 have hsta:=h.vc.sta
 have hco:0<=c.correct/\c.correct<=8:=by
  have:=h.vc.cor
  have:=h.sz
  omega
 refine ar.intro ab ac [] Tryz.func82 rfl (by decide) ?_
 conv=>whnf
 refine am rfl ?_
 conv=>whnf
 refine am rfl ?_
 conv=>whnf
 refine nI ?_
 generalize p.rules.getD x.rule.toNat au=r at hen hR hB hk0
 have hcor:=hcor0
 have hbr:=bo hB
 have hrd:=hR.read
 have hfit:=hR.fit
 unfold cb at hfit
 have hse:=hR.send
 conv=>whnf
 refine ar.news 400 (kD 5 9 13 17) (eW c) (eH c) (gW c h.wide) (ai) rfl fN ?_
 conv=>whnf
 refine nI ?_
 conv=>whnf
 refine ak _ rfl ?_
 conv=>whnf
 have hpl:x.process.toNat<c.states.length:=by omega
 have hpc:((x.process.toNat:Nat):Int)=x.process:=by omega
 have k25:r.kind=2\/r.kind=5:=.inl hk0
 obtain⟨g1,g2,g3,g4⟩:=gc hen k25
 have hst:(c.states.set x.process.toNat r.dst).set x.partner.toNat r.pto=fD c r x:=dv (by simp) fun j hj=>by
  rw[ax,ax,List.length_set]
  unfold lG
  by_cases e2:x.partner.toNat=j
  ·rw[if_pos ⟨e2,by omega⟩,if_neg (by omega),if_pos ⟨k25,by omega⟩]
  ·rw[if_neg (fun h=>e2 h.1)]
   by_cases e:x.process.toNat=j
   ·rw[if_pos ⟨e,by omega⟩,if_pos (by omega)]
   ·rw[if_neg (fun h=>e h.1),if_neg (by omega),if_neg (fun h=>e2 (by omega)),if_neg (by omega)]
 repeat' (first|(refine tI ?_;conv=>whnf)|(refine fI ?_;conv=>whnf)|fail)
 refine dA ⟨g1,g2⟩ ?_
 rw[aK]
 dsimp only
 rw[bn]
 refine cL rfl rfl rfl rfl rfl ?_
 rw[hst]
 conv=>whnf
 repeat' ((first|refine nI ?_|refine aI ?_|refine tI ?_|refine fI ?_|fail);conv=>whnf)
 refine aR.loopF ab ac (fun k:Nat=>k<=r.send.length/\∀j,j<k->(aL c.sent (r.send.take (j+1))).getD (r.send.getD j 0).toNat 0<=1048576) (fun k=>[(79, .int .i64 (k:Int))]) (fun k=>Dl c r (fD c r x) (aL c.sent (r.send.take k)) c.faulty) (fun k=>r.send.length-k) 0 ⟨by omega,fun j hj=>by omega⟩ ?_;conv=>whnf
 refine⟨sI,?_⟩
 rintro k ⟨hk,ha⟩
 conv=>whnf
 refine ag ?_ ?_<;>(intro g1;conv=>whnf)
 ·have hm:=hse k (by omega)
  have hb:=aM (r.send.take k) c.sent 1048576 (aN h.sent.1) (r.send.getD k 0).toNat
  have htl:(r.send.take k).length<=60:=by rw[List.length_take];omega
  have hup:=aE (l:=c.sent) (ms:=r.send) (k:=k) (by omega)
  refine nI ?_
  rw[tN]
  conv=>whnf
  refine nI ?_
  conv=>whnf
  refine aI ?_
  conv=>whnf
  refine nI ?_
  conv=>whnf
  refine ak _ rfl ?_
  rw[<-hup]
  conv=>whnf
  refine nI ?_
  conv=>whnf
  refine ag ?_ ?_<;>(intro g2;conv=>whnf)
  ·exact .inr ⟨fun hap=>by unfold bh at hap;rw[if_pos hcor] at hap;have:=hap k (by omega);omega,rfl⟩
  ·repeat' ((first|refine nI ?_|refine aI ?_|refine tI ?_|refine fI ?_|fail);conv=>whnf)
   refine⟨k+1,sI,⟨by omega,fun j hj=>?_⟩,by dsimp only;omega⟩
   by_cases e:j=k
   ·subst e;omega
   ·exact ha j (by omega)
 ·obtain rfl:k=r.send.length:=by omega
  rw[List.take_length]
  have hap:bh c r x:=by unfold bh;rw[if_pos hcor];exact ha
  by_cases hwr:r.write=-1
  ·repeat' ((first|refine nI ?_|refine aI ?_|refine tI ?_|refine fI ?_|fail);conv=>whnf)
   refine .inl ⟨hap,?_⟩
   rw[dh hcor,if_pos hwr]
   exact⟨ei rfl (bT _ _ _).symm (bq _ _).symm rfl rfl rfl,rfl,rfl,rfl,rfl⟩
  ·repeat' ((first|refine nI ?_|refine aI ?_|refine tI ?_|refine fI ?_|fail);conv=>whnf)
   refine .inl ⟨hap,?_⟩
   rw[dh hcor,if_neg hwr]
   exact⟨ei rfl (bT _ _ _).symm (bq _ _).symm rfl rfl rfl,rfl,rfl,rfl,rfl⟩
theorem BU (p:aq) (s:aB) (c:ap) (x:be) (h:cK p s c) (he:cz p s c x false) (hk0:(p.rules.getD x.rule.toNat au).kind=5) (hcor0:x.process<c.correct):ar Tryz.prog 82 [.agg (gV p s c), .agg (cF x)] (ah.ofL []) (El c (p.rules.getD x.rule.toNat au) x):=by
 have hle:=aC h.big
 have hc:=aG h.wide
 obtain⟨hin,hen⟩:=he
 have hR:=aF h.val (i:=x.rule.toNat) (by omega)
 have hB:=aU h.big (j:=x.rule.toNat) (by omega)
 have hsn:=h.vc.snl
 have hfa:=h.vc.fal
 have hsta:=h.vc.sta
 have hco:0<=c.correct/\c.correct<=8:=by
  have:=h.vc.cor
  have:=h.sz
  omega
 refine ar.intro ab ac [] Tryz.func82 rfl (by decide) ?_
 conv=>whnf
 refine am rfl ?_
 conv=>whnf
 refine am rfl ?_
 conv=>whnf
 refine nI ?_
 generalize p.rules.getD x.rule.toNat au=r at hen hR hB hk0
 have hcor:=hcor0
 have hbr:=bo hB
 have hrd:=hR.read
 have hfit:=hR.fit
 unfold cb at hfit
 have hse:=hR.send
 conv=>whnf
 refine ar.news 400 (kD 5 9 13 17) (eW c) (eH c) (gW c h.wide) (ai) rfl fN ?_
 conv=>whnf
 refine nI ?_
 conv=>whnf
 refine ak _ rfl ?_
 conv=>whnf
 have hpl:x.process.toNat<c.states.length:=by omega
 have hpc:((x.process.toNat:Nat):Int)=x.process:=by omega
 have k25:r.kind=2\/r.kind=5:=.inr hk0
 obtain⟨g1,g2,g3,g4⟩:=gc hen k25
 have hst:(c.states.set x.process.toNat r.dst).set x.partner.toNat r.pto=fD c r x:=dv (by simp) fun j hj=>by
  rw[ax,ax,List.length_set]
  unfold lG
  by_cases e2:x.partner.toNat=j
  ·rw[if_pos ⟨e2,by omega⟩,if_neg (by omega),if_pos ⟨k25,by omega⟩]
  ·rw[if_neg (fun h=>e2 h.1)]
   by_cases e:x.process.toNat=j
   ·rw[if_pos ⟨e,by omega⟩,if_pos (by omega)]
   ·rw[if_neg (fun h=>e h.1),if_neg (by omega),if_neg (fun h=>e2 (by omega)),if_neg (by omega)]
 repeat' (first|(refine tI ?_;conv=>whnf)|(refine fI ?_;conv=>whnf)|fail)
 refine dA ⟨g1,g2⟩ ?_
 rw[aK]
 dsimp only
 rw[bn]
 refine cL rfl rfl rfl rfl rfl ?_
 rw[hst]
 conv=>whnf
 repeat' ((first|refine nI ?_|refine aI ?_|refine tI ?_|refine fI ?_|fail);conv=>whnf)
 refine aR.loopF ab ac (fun k:Nat=>k<=r.send.length/\∀j,j<k->(aL c.sent (r.send.take (j+1))).getD (r.send.getD j 0).toNat 0<=1048576) (fun k=>[(79, .int .i64 (k:Int))]) (fun k=>Dl c r (fD c r x) (aL c.sent (r.send.take k)) c.faulty) (fun k=>r.send.length-k) 0 ⟨by omega,fun j hj=>by omega⟩ ?_;conv=>whnf
 refine⟨sI,?_⟩
 rintro k ⟨hk,ha⟩
 conv=>whnf
 refine ag ?_ ?_<;>(intro g1;conv=>whnf)
 ·have hm:=hse k (by omega)
  have hb:=aM (r.send.take k) c.sent 1048576 (aN h.sent.1) (r.send.getD k 0).toNat
  have htl:(r.send.take k).length<=60:=by rw[List.length_take];omega
  have hup:=aE (l:=c.sent) (ms:=r.send) (k:=k) (by omega)
  refine nI ?_
  rw[tN]
  conv=>whnf
  refine nI ?_
  conv=>whnf
  refine aI ?_
  conv=>whnf
  refine nI ?_
  conv=>whnf
  refine ak _ rfl ?_
  rw[<-hup]
  conv=>whnf
  refine nI ?_
  conv=>whnf
  refine ag ?_ ?_<;>(intro g2;conv=>whnf)
  ·exact .inr ⟨fun hap=>by unfold bh at hap;rw[if_pos hcor] at hap;have:=hap k (by omega);omega,rfl⟩
  ·repeat' ((first|refine nI ?_|refine aI ?_|refine tI ?_|refine fI ?_|fail);conv=>whnf)
   refine⟨k+1,sI,⟨by omega,fun j hj=>?_⟩,by dsimp only;omega⟩
   by_cases e:j=k
   ·subst e;omega
   ·exact ha j (by omega)
 ·obtain rfl:k=r.send.length:=by omega
  rw[List.take_length]
  have hap:bh c r x:=by unfold bh;rw[if_pos hcor];exact ha
  by_cases hwr:r.write=-1
  ·repeat' ((first|refine nI ?_|refine aI ?_|refine tI ?_|refine fI ?_|fail);conv=>whnf)
   refine .inl ⟨hap,?_⟩
   rw[dh hcor,if_pos hwr]
   exact⟨ei rfl (bT _ _ _).symm (bq _ _).symm rfl rfl rfl,rfl,rfl,rfl,rfl⟩
  ·repeat' ((first|refine nI ?_|refine aI ?_|refine tI ?_|refine fI ?_|fail);conv=>whnf)
   refine .inl ⟨hap,?_⟩
   rw[dh hcor,if_neg hwr]
   exact⟨ei rfl (bT _ _ _).symm (bq _ _).symm rfl rfl rfl,rfl,rfl,rfl,rfl⟩
theorem BV (p:aq) (s:aB) (c:ap) (x:be) (h:cK p s c) (he:cz p s c x false) (hk0:(p.rules.getD x.rule.toNat au).kind=3) (hcor0:x.process<c.correct):ar Tryz.prog 82 [.agg (gV p s c), .agg (cF x)] (ah.ofL []) (El c (p.rules.getD x.rule.toNat au) x):=by
 have hle:=aC h.big
 have hc:=aG h.wide
 obtain⟨hin,hen⟩:=he
 have hR:=aF h.val (i:=x.rule.toNat) (by omega)
 have hB:=aU h.big (j:=x.rule.toNat) (by omega)
 have hsn:=h.vc.snl
 have hfa:=h.vc.fal
 have hsta:=h.vc.sta
 have hco:0<=c.correct/\c.correct<=8:=by
  have:=h.vc.cor
  have:=h.sz
  omega
 refine ar.intro ab ac [] Tryz.func82 rfl (by decide) ?_
 conv=>whnf
 refine am rfl ?_
 conv=>whnf
 refine am rfl ?_
 conv=>whnf
 refine nI ?_
 generalize p.rules.getD x.rule.toNat au=r at hen hR hB hk0
 have hcor:=hcor0
 have hbr:=bo hB
 have hrd:=hR.read
 have hfit:=hR.fit
 unfold cb at hfit
 have hse:=hR.send
 conv=>whnf
 refine ar.news 400 (kD 5 9 13 17) (eW c) (eH c) (gW c h.wide) (ai) rfl fN ?_
 conv=>whnf
 refine nI ?_
 conv=>whnf
 refine ak _ rfl ?_
 conv=>whnf
 have hpl:x.process.toNat<c.states.length:=by omega
 have hpc:((x.process.toNat:Nat):Int)=x.process:=by omega
 have k3:=hk0
 obtain⟨hrl,hri⟩:=hR.resp k3
 repeat' ((first|refine nI ?_|refine aI ?_|refine tI ?_|refine fI ?_|fail);conv=>whnf)
 refine aR.loopF ab ac (fun z:Nat×List Int=>z.1<=c.states.length/\z.2.length=c.states.length/\∀j,j<c.states.length->z.2.getD j 0=if(j:Int)=x.process then r.dst else if j<z.1 then r.response.getD (c.states.getD j 0).toNat 0 else c.states.getD j 0) (fun z=>[(48, .int .i64 (z.1:Int))]) (fun z=>Dl c r z.2 c.sent c.faulty) (fun z=>c.states.length-z.1) (0,c.states.set x.process.toNat r.dst) ⟨Nat.zero_le _,by simp,fun j hj=>by
  dsimp only
  rw[ax]
  by_cases e:x.process.toNat=j
  ·rw[if_pos ⟨e,by omega⟩,if_pos (by omega)]
  ·rw[if_neg (fun h=>e h.1),if_neg (by omega),if_neg (by omega)]⟩ ?_;conv=>whnf
 refine⟨sI,?_⟩
 rintro⟨k,l⟩ ⟨h1,h2,h3⟩
 dsimp only at h1 h2 h3⊢
 conv=>whnf
 refine ag ?_ ?_<;>(intro g1;conv=>whnf)
 case' refine_1=>
  have hy:=hsta k (by omega)
  refine nI ?_
  rw[tN]
  conv=>whnf
  refine ag ?_ ?_<;>(intro g2;conv=>whnf)
  ·refine dR ?_
   conv=>whnf
   refine nI ?_
   conv=>whnf
   refine nI ?_
   conv=>whnf
   refine ak _ rfl ?_
   rw[tN]
   conv=>whnf
   repeat' ((first|refine nI ?_|refine aI ?_|refine tI ?_|refine fI ?_|fail);conv=>whnf)
   refine⟨(k+1,l.set k (r.response.getD (c.states.getD k 0).toNat 0)),sI,⟨by dsimp only;omega,by simpa using h2,fun j hj=>?_⟩,by dsimp only;omega⟩
   dsimp only
   rw[ax]
   by_cases e:k=j
   ·subst e;rw[if_pos ⟨rfl,by omega⟩,if_neg (by omega),if_pos (by omega)]
   ·rw[if_neg (fun h=>e h.1),h3 j hj]
    by_cases e2:(j:Int)=x.process
    ·rw[if_pos e2,if_pos e2]
    ·rw[if_neg e2,if_neg e2]
     by_cases e3:j<k
     ·rw[if_pos e3,if_pos (by omega)]
     ·rw[if_neg e3,if_neg (by omega)]
  ·repeat' ((first|refine nI ?_|refine aI ?_|refine tI ?_|refine fI ?_|fail);conv=>whnf)
   refine⟨(k+1,l),sI,⟨by dsimp only;omega,h2,fun j hj=>?_⟩,by dsimp only;omega⟩
   rw[h3 j hj]
   dsimp only
   by_cases e2:(j:Int)=x.process
   ·rw[if_pos e2,if_pos e2]
   ·rw[if_neg e2,if_neg e2]
    by_cases e3:j<k
    ·rw[if_pos e3,if_pos (by omega)]
    ·rw[if_neg e3,if_neg (by omega)]
 obtain rfl:l=fD c r x:=dv h2 fun j hj=>by
  rw[h3 j hj]
  unfold lG
  by_cases e2:(j:Int)=x.process
  ·rw[if_pos e2,if_pos e2]
  ·rw[if_neg e2,if_neg e2,if_pos (by omega),if_neg (by omega),if_pos k3]
 repeat' ((first|refine nI ?_|refine aI ?_|refine tI ?_|refine fI ?_|fail);conv=>whnf)
 refine aR.loopF ab ac (fun k:Nat=>k<=r.send.length/\∀j,j<k->(aL c.sent (r.send.take (j+1))).getD (r.send.getD j 0).toNat 0<=1048576) (fun k=>[(79, .int .i64 (k:Int))]) (fun k=>Dl c r (fD c r x) (aL c.sent (r.send.take k)) c.faulty) (fun k=>r.send.length-k) 0 ⟨by omega,fun j hj=>by omega⟩ ?_;conv=>whnf
 refine⟨sI,?_⟩
 rintro k ⟨hk,ha⟩
 conv=>whnf
 refine ag ?_ ?_<;>(intro g1;conv=>whnf)
 ·have hm:=hse k (by omega)
  have hb:=aM (r.send.take k) c.sent 1048576 (aN h.sent.1) (r.send.getD k 0).toNat
  have htl:(r.send.take k).length<=60:=by rw[List.length_take];omega
  have hup:=aE (l:=c.sent) (ms:=r.send) (k:=k) (by omega)
  refine nI ?_
  rw[tN]
  conv=>whnf
  refine nI ?_
  conv=>whnf
  refine aI ?_
  conv=>whnf
  refine nI ?_
  conv=>whnf
  refine ak _ rfl ?_
  rw[<-hup]
  conv=>whnf
  refine nI ?_
  conv=>whnf
  refine ag ?_ ?_<;>(intro g2;conv=>whnf)
  ·exact .inr ⟨fun hap=>by unfold bh at hap;rw[if_pos hcor] at hap;have:=hap k (by omega);omega,rfl⟩
  ·repeat' ((first|refine nI ?_|refine aI ?_|refine tI ?_|refine fI ?_|fail);conv=>whnf)
   refine⟨k+1,sI,⟨by omega,fun j hj=>?_⟩,by dsimp only;omega⟩
   by_cases e:j=k
   ·subst e;omega
   ·exact ha j (by omega)
 ·obtain rfl:k=r.send.length:=by omega
  rw[List.take_length]
  have hap:bh c r x:=by unfold bh;rw[if_pos hcor];exact ha
  by_cases hwr:r.write=-1
  ·repeat' ((first|refine nI ?_|refine aI ?_|refine tI ?_|refine fI ?_|fail);conv=>whnf)
   refine .inl ⟨hap,?_⟩
   rw[dh hcor,if_pos hwr]
   exact⟨ei rfl (bT _ _ _).symm (bq _ _).symm rfl rfl rfl,rfl,rfl,rfl,rfl⟩
  ·repeat' ((first|refine nI ?_|refine aI ?_|refine tI ?_|refine fI ?_|fail);conv=>whnf)
   refine .inl ⟨hap,?_⟩
   rw[dh hcor,if_neg hwr]
   exact⟨ei rfl (bT _ _ _).symm (bq _ _).symm rfl rfl rfl,rfl,rfl,rfl,rfl⟩
theorem BW (p:aq) (s:aB) (c:ap) (x:be) (h:cK p s c) (he:cz p s c x false) (hk0:(p.rules.getD x.rule.toNat au).kind=1\/(p.rules.getD x.rule.toNat au).kind=4) (hcor0:¬x.process<c.correct):ar Tryz.prog 82 [.agg (gV p s c), .agg (cF x)] (ah.ofL []) (El c (p.rules.getD x.rule.toNat au) x):=by
 have hle:=aC h.big
 have hc:=aG h.wide
 obtain⟨hin,hen⟩:=he
 have hR:=aF h.val (i:=x.rule.toNat) (by omega)
 have hB:=aU h.big (j:=x.rule.toNat) (by omega)
 have hsn:=h.vc.snl
 have hfa:=h.vc.fal
 have hsta:=h.vc.sta
 have hco:0<=c.correct/\c.correct<=8:=by
  have:=h.vc.cor
  have:=h.sz
  omega
 refine ar.intro ab ac [] Tryz.func82 rfl (by decide) ?_
 conv=>whnf
 refine am rfl ?_
 conv=>whnf
 refine am rfl ?_
 conv=>whnf
 refine nI ?_
 generalize p.rules.getD x.rule.toNat au=r at hen hR hB hk0
 have hcor:=hcor0
 have hbr:=bo hB
 have hrd:=hR.read
 have hfit:=hR.fit
 unfold cb at hfit
 have hse:=hR.send
 conv=>whnf
 refine ar.news 400 (kD 5 9 13 17) (eW c) (eH c) (gW c h.wide) (ai) rfl fN ?_
 conv=>whnf
 refine nI ?_
 conv=>whnf
 refine ak _ rfl ?_
 conv=>whnf
 have hpl:x.process.toNat<c.states.length:=by omega
 have hpc:((x.process.toNat:Nat):Int)=x.process:=by omega
 have k14:=hk0
 have hst:c.states.set x.process.toNat r.dst=fD c r x:=dv (by simp) fun j hj=>by
  rw[ax]
  unfold lG
  by_cases e:x.process.toNat=j
  ·rw[if_pos ⟨e,by omega⟩,if_pos (by omega)]
  ·rw[if_neg (fun h=>e h.1),if_neg (by omega),if_neg (by omega),if_neg (by omega)]
 rw[hst]
 repeat' ((first|refine nI ?_|refine aI ?_|refine tI ?_|refine fI ?_|fail);conv=>whnf)
 repeat' ((first|refine nI ?_|refine aI ?_|refine tI ?_|refine fI ?_|fail);conv=>whnf)
 refine aR.loopF ab ac (fun k:Nat=>k<=r.send.length/\∀j,j<k->(aL c.faulty (r.send.take (j+1))).getD (r.send.getD j 0).toNat 0<=1048576) (fun k=>[(79, .int .i64 (k:Int))]) (fun k=>Dl c r (fD c r x) c.sent (aL c.faulty (r.send.take k))) (fun k=>r.send.length-k) 0 ⟨by omega,fun j hj=>by omega⟩ ?_;conv=>whnf
 refine⟨sI,?_⟩
 rintro k ⟨hk,ha⟩
 conv=>whnf
 refine ag ?_ ?_<;>(intro g1;conv=>whnf)
 ·have hm:=hse k (by omega)
  have hb:=aM (r.send.take k) c.faulty 1048576 (aN h.sent.2) (r.send.getD k 0).toNat
  have htl:(r.send.take k).length<=60:=by rw[List.length_take];omega
  have hup:=aE (l:=c.faulty) (ms:=r.send) (k:=k) (by omega)
  refine nI ?_
  rw[tN]
  conv=>whnf
  refine nI ?_
  conv=>whnf
  refine aI ?_
  conv=>whnf
  refine nI ?_
  conv=>whnf
  refine ak _ rfl ?_
  rw[<-hup]
  conv=>whnf
  refine nI ?_
  conv=>whnf
  refine ag ?_ ?_<;>(intro g2;conv=>whnf)
  ·exact .inr ⟨fun hap=>by unfold bh at hap;rw[if_neg hcor] at hap;have:=hap k (by omega);omega,rfl⟩
  ·repeat' ((first|refine nI ?_|refine aI ?_|refine tI ?_|refine fI ?_|fail);conv=>whnf)
   refine⟨k+1,sI,⟨by omega,fun j hj=>?_⟩,by dsimp only;omega⟩
   by_cases e:j=k
   ·subst e;omega
   ·exact ha j (by omega)
 ·obtain rfl:k=r.send.length:=by omega
  rw[List.take_length]
  have hap:bh c r x:=by unfold bh;rw[if_neg hcor];exact ha
  by_cases hwr:r.write=-1
  ·repeat' ((first|refine nI ?_|refine aI ?_|refine tI ?_|refine fI ?_|fail);conv=>whnf)
   refine .inl ⟨hap,?_⟩
   rw[di hcor,if_pos hwr]
   exact⟨ei rfl (bT _ _ _).symm rfl (bq _ _).symm rfl rfl,rfl,rfl,rfl,rfl⟩
  ·repeat' ((first|refine nI ?_|refine aI ?_|refine tI ?_|refine fI ?_|fail);conv=>whnf)
   refine .inl ⟨hap,?_⟩
   rw[di hcor,if_neg hwr]
   exact⟨ei rfl (bT _ _ _).symm rfl (bq _ _).symm rfl rfl,rfl,rfl,rfl,rfl⟩
theorem BX (p:aq) (s:aB) (c:ap) (x:be) (h:cK p s c) (he:cz p s c x false) (hk0:(p.rules.getD x.rule.toNat au).kind=2) (hcor0:¬x.process<c.correct):ar Tryz.prog 82 [.agg (gV p s c), .agg (cF x)] (ah.ofL []) (El c (p.rules.getD x.rule.toNat au) x):=by
 have hle:=aC h.big
 have hc:=aG h.wide
 obtain⟨hin,hen⟩:=he
 have hR:=aF h.val (i:=x.rule.toNat) (by omega)
 have hB:=aU h.big (j:=x.rule.toNat) (by omega)
 have hsn:=h.vc.snl
 have hfa:=h.vc.fal
 have hsta:=h.vc.sta
 have hco:0<=c.correct/\c.correct<=8:=by
  have:=h.vc.cor
  have:=h.sz
  omega
 refine ar.intro ab ac [] Tryz.func82 rfl (by decide) ?_
 conv=>whnf
 refine am rfl ?_
 conv=>whnf
 refine am rfl ?_
 conv=>whnf
 refine nI ?_
 generalize p.rules.getD x.rule.toNat au=r at hen hR hB hk0
 have hcor:=hcor0
 have hbr:=bo hB
 have hrd:=hR.read
 have hfit:=hR.fit
 unfold cb at hfit
 have hse:=hR.send
 conv=>whnf
 refine ar.news 400 (kD 5 9 13 17) (eW c) (eH c) (gW c h.wide) (ai) rfl fN ?_
 conv=>whnf
 refine nI ?_
 conv=>whnf
 refine ak _ rfl ?_
 conv=>whnf
 have hpl:x.process.toNat<c.states.length:=by omega
 have hpc:((x.process.toNat:Nat):Int)=x.process:=by omega
 have k25:r.kind=2\/r.kind=5:=.inl hk0
 obtain⟨g1,g2,g3,g4⟩:=gc hen k25
 have hst:(c.states.set x.process.toNat r.dst).set x.partner.toNat r.pto=fD c r x:=dv (by simp) fun j hj=>by
  rw[ax,ax,List.length_set]
  unfold lG
  by_cases e2:x.partner.toNat=j
  ·rw[if_pos ⟨e2,by omega⟩,if_neg (by omega),if_pos ⟨k25,by omega⟩]
  ·rw[if_neg (fun h=>e2 h.1)]
   by_cases e:x.process.toNat=j
   ·rw[if_pos ⟨e,by omega⟩,if_pos (by omega)]
   ·rw[if_neg (fun h=>e h.1),if_neg (by omega),if_neg (fun h=>e2 (by omega)),if_neg (by omega)]
 repeat' (first|(refine tI ?_;conv=>whnf)|(refine fI ?_;conv=>whnf)|fail)
 refine dA ⟨g1,g2⟩ ?_
 rw[aK]
 dsimp only
 rw[bn]
 refine cL rfl rfl rfl rfl rfl ?_
 rw[hst]
 conv=>whnf
 repeat' ((first|refine nI ?_|refine aI ?_|refine tI ?_|refine fI ?_|fail);conv=>whnf)
 refine aR.loopF ab ac (fun k:Nat=>k<=r.send.length/\∀j,j<k->(aL c.faulty (r.send.take (j+1))).getD (r.send.getD j 0).toNat 0<=1048576) (fun k=>[(79, .int .i64 (k:Int))]) (fun k=>Dl c r (fD c r x) c.sent (aL c.faulty (r.send.take k))) (fun k=>r.send.length-k) 0 ⟨by omega,fun j hj=>by omega⟩ ?_;conv=>whnf
 refine⟨sI,?_⟩
 rintro k ⟨hk,ha⟩
 conv=>whnf
 refine ag ?_ ?_<;>(intro g1;conv=>whnf)
 ·have hm:=hse k (by omega)
  have hb:=aM (r.send.take k) c.faulty 1048576 (aN h.sent.2) (r.send.getD k 0).toNat
  have htl:(r.send.take k).length<=60:=by rw[List.length_take];omega
  have hup:=aE (l:=c.faulty) (ms:=r.send) (k:=k) (by omega)
  refine nI ?_
  rw[tN]
  conv=>whnf
  refine nI ?_
  conv=>whnf
  refine aI ?_
  conv=>whnf
  refine nI ?_
  conv=>whnf
  refine ak _ rfl ?_
  rw[<-hup]
  conv=>whnf
  refine nI ?_
  conv=>whnf
  refine ag ?_ ?_<;>(intro g2;conv=>whnf)
  ·exact .inr ⟨fun hap=>by unfold bh at hap;rw[if_neg hcor] at hap;have:=hap k (by omega);omega,rfl⟩
  ·repeat' ((first|refine nI ?_|refine aI ?_|refine tI ?_|refine fI ?_|fail);conv=>whnf)
   refine⟨k+1,sI,⟨by omega,fun j hj=>?_⟩,by dsimp only;omega⟩
   by_cases e:j=k
   ·subst e;omega
   ·exact ha j (by omega)
 ·obtain rfl:k=r.send.length:=by omega
  rw[List.take_length]
  have hap:bh c r x:=by unfold bh;rw[if_neg hcor];exact ha
  by_cases hwr:r.write=-1
  ·repeat' ((first|refine nI ?_|refine aI ?_|refine tI ?_|refine fI ?_|fail);conv=>whnf)
   refine .inl ⟨hap,?_⟩
   rw[di hcor,if_pos hwr]
   exact⟨ei rfl (bT _ _ _).symm rfl (bq _ _).symm rfl rfl,rfl,rfl,rfl,rfl⟩
  ·repeat' ((first|refine nI ?_|refine aI ?_|refine tI ?_|refine fI ?_|fail);conv=>whnf)
   refine .inl ⟨hap,?_⟩
   rw[di hcor,if_neg hwr]
   exact⟨ei rfl (bT _ _ _).symm rfl (bq _ _).symm rfl rfl,rfl,rfl,rfl,rfl⟩
theorem BZ (p:aq) (s:aB) (c:ap) (x:be) (h:cK p s c) (he:cz p s c x false) (hk0:(p.rules.getD x.rule.toNat au).kind=5) (hcor0:¬x.process<c.correct):ar Tryz.prog 82 [.agg (gV p s c), .agg (cF x)] (ah.ofL []) (El c (p.rules.getD x.rule.toNat au) x):=by
 have hle:=aC h.big
 have hc:=aG h.wide
 obtain⟨hin,hen⟩:=he
 have hR:=aF h.val (i:=x.rule.toNat) (by omega)
 have hB:=aU h.big (j:=x.rule.toNat) (by omega)
 have hsn:=h.vc.snl
 have hfa:=h.vc.fal
 have hsta:=h.vc.sta
 have hco:0<=c.correct/\c.correct<=8:=by
  have:=h.vc.cor
  have:=h.sz
  omega
 refine ar.intro ab ac [] Tryz.func82 rfl (by decide) ?_
 conv=>whnf
 refine am rfl ?_
 conv=>whnf
 refine am rfl ?_
 conv=>whnf
 refine nI ?_
 generalize p.rules.getD x.rule.toNat au=r at hen hR hB hk0
 have hcor:=hcor0
 have hbr:=bo hB
 have hrd:=hR.read
 have hfit:=hR.fit
 unfold cb at hfit
 have hse:=hR.send
 conv=>whnf
 refine ar.news 400 (kD 5 9 13 17) (eW c) (eH c) (gW c h.wide) (ai) rfl fN ?_
 conv=>whnf
 refine nI ?_
 conv=>whnf
 refine ak _ rfl ?_
 conv=>whnf
 have hpl:x.process.toNat<c.states.length:=by omega
 have hpc:((x.process.toNat:Nat):Int)=x.process:=by omega
 have k25:r.kind=2\/r.kind=5:=.inr hk0
 obtain⟨g1,g2,g3,g4⟩:=gc hen k25
 have hst:(c.states.set x.process.toNat r.dst).set x.partner.toNat r.pto=fD c r x:=dv (by simp) fun j hj=>by
  rw[ax,ax,List.length_set]
  unfold lG
  by_cases e2:x.partner.toNat=j
  ·rw[if_pos ⟨e2,by omega⟩,if_neg (by omega),if_pos ⟨k25,by omega⟩]
  ·rw[if_neg (fun h=>e2 h.1)]
   by_cases e:x.process.toNat=j
   ·rw[if_pos ⟨e,by omega⟩,if_pos (by omega)]
   ·rw[if_neg (fun h=>e h.1),if_neg (by omega),if_neg (fun h=>e2 (by omega)),if_neg (by omega)]
 repeat' (first|(refine tI ?_;conv=>whnf)|(refine fI ?_;conv=>whnf)|fail)
 refine dA ⟨g1,g2⟩ ?_
 rw[aK]
 dsimp only
 rw[bn]
 refine cL rfl rfl rfl rfl rfl ?_
 rw[hst]
 conv=>whnf
 repeat' ((first|refine nI ?_|refine aI ?_|refine tI ?_|refine fI ?_|fail);conv=>whnf)
 refine aR.loopF ab ac (fun k:Nat=>k<=r.send.length/\∀j,j<k->(aL c.faulty (r.send.take (j+1))).getD (r.send.getD j 0).toNat 0<=1048576) (fun k=>[(79, .int .i64 (k:Int))]) (fun k=>Dl c r (fD c r x) c.sent (aL c.faulty (r.send.take k))) (fun k=>r.send.length-k) 0 ⟨by omega,fun j hj=>by omega⟩ ?_;conv=>whnf
 refine⟨sI,?_⟩
 rintro k ⟨hk,ha⟩
 conv=>whnf
 refine ag ?_ ?_<;>(intro g1;conv=>whnf)
 ·have hm:=hse k (by omega)
  have hb:=aM (r.send.take k) c.faulty 1048576 (aN h.sent.2) (r.send.getD k 0).toNat
  have htl:(r.send.take k).length<=60:=by rw[List.length_take];omega
  have hup:=aE (l:=c.faulty) (ms:=r.send) (k:=k) (by omega)
  refine nI ?_
  rw[tN]
  conv=>whnf
  refine nI ?_
  conv=>whnf
  refine aI ?_
  conv=>whnf
  refine nI ?_
  conv=>whnf
  refine ak _ rfl ?_
  rw[<-hup]
  conv=>whnf
  refine nI ?_
  conv=>whnf
  refine ag ?_ ?_<;>(intro g2;conv=>whnf)
  ·exact .inr ⟨fun hap=>by unfold bh at hap;rw[if_neg hcor] at hap;have:=hap k (by omega);omega,rfl⟩
  ·repeat' ((first|refine nI ?_|refine aI ?_|refine tI ?_|refine fI ?_|fail);conv=>whnf)
   refine⟨k+1,sI,⟨by omega,fun j hj=>?_⟩,by dsimp only;omega⟩
   by_cases e:j=k
   ·subst e;omega
   ·exact ha j (by omega)
 ·obtain rfl:k=r.send.length:=by omega
  rw[List.take_length]
  have hap:bh c r x:=by unfold bh;rw[if_neg hcor];exact ha
  by_cases hwr:r.write=-1
  ·repeat' ((first|refine nI ?_|refine aI ?_|refine tI ?_|refine fI ?_|fail);conv=>whnf)
   refine .inl ⟨hap,?_⟩
   rw[di hcor,if_pos hwr]
   exact⟨ei rfl (bT _ _ _).symm rfl (bq _ _).symm rfl rfl,rfl,rfl,rfl,rfl⟩
  ·repeat' ((first|refine nI ?_|refine aI ?_|refine tI ?_|refine fI ?_|fail);conv=>whnf)
   refine .inl ⟨hap,?_⟩
   rw[di hcor,if_neg hwr]
   exact⟨ei rfl (bT _ _ _).symm rfl (bq _ _).symm rfl rfl,rfl,rfl,rfl,rfl⟩
theorem B3 (p:aq) (s:aB) (c:ap) (x:be) (h:cK p s c) (he:cz p s c x false) (hk0:(p.rules.getD x.rule.toNat au).kind=3) (hcor0:¬x.process<c.correct):ar Tryz.prog 82 [.agg (gV p s c), .agg (cF x)] (ah.ofL []) (El c (p.rules.getD x.rule.toNat au) x):=by
 have hle:=aC h.big
 have hc:=aG h.wide
 obtain⟨hin,hen⟩:=he
 have hR:=aF h.val (i:=x.rule.toNat) (by omega)
 have hB:=aU h.big (j:=x.rule.toNat) (by omega)
 have hsn:=h.vc.snl
 have hfa:=h.vc.fal
 have hsta:=h.vc.sta
 have hco:0<=c.correct/\c.correct<=8:=by
  have:=h.vc.cor
  have:=h.sz
  omega
 refine ar.intro ab ac [] Tryz.func82 rfl (by decide) ?_
 conv=>whnf
 refine am rfl ?_
 conv=>whnf
 refine am rfl ?_
 conv=>whnf
 refine nI ?_
 generalize p.rules.getD x.rule.toNat au=r at hen hR hB hk0
 have hcor:=hcor0
 have hbr:=bo hB
 have hrd:=hR.read
 have hfit:=hR.fit
 unfold cb at hfit
 have hse:=hR.send
 conv=>whnf
 refine ar.news 400 (kD 5 9 13 17) (eW c) (eH c) (gW c h.wide) (ai) rfl fN ?_
 conv=>whnf
 refine nI ?_
 conv=>whnf
 refine ak _ rfl ?_
 conv=>whnf
 have hpl:x.process.toNat<c.states.length:=by omega
 have hpc:((x.process.toNat:Nat):Int)=x.process:=by omega
 have k3:=hk0
 obtain⟨hrl,hri⟩:=hR.resp k3
 repeat' ((first|refine nI ?_|refine aI ?_|refine tI ?_|refine fI ?_|fail);conv=>whnf)
 refine aR.loopF ab ac (fun z:Nat×List Int=>z.1<=c.states.length/\z.2.length=c.states.length/\∀j,j<c.states.length->z.2.getD j 0=if(j:Int)=x.process then r.dst else if j<z.1 then r.response.getD (c.states.getD j 0).toNat 0 else c.states.getD j 0) (fun z=>[(48, .int .i64 (z.1:Int))]) (fun z=>Dl c r z.2 c.sent c.faulty) (fun z=>c.states.length-z.1) (0,c.states.set x.process.toNat r.dst) ⟨Nat.zero_le _,by simp,fun j hj=>by
  dsimp only
  rw[ax]
  by_cases e:x.process.toNat=j
  ·rw[if_pos ⟨e,by omega⟩,if_pos (by omega)]
  ·rw[if_neg (fun h=>e h.1),if_neg (by omega),if_neg (by omega)]⟩ ?_;conv=>whnf
 refine⟨sI,?_⟩
 rintro⟨k,l⟩ ⟨h1,h2,h3⟩
 dsimp only at h1 h2 h3⊢
 conv=>whnf
 refine ag ?_ ?_<;>(intro g1;conv=>whnf)
 case' refine_1=>
  have hy:=hsta k (by omega)
  refine nI ?_
  rw[tN]
  conv=>whnf
  refine ag ?_ ?_<;>(intro g2;conv=>whnf)
  ·refine dR ?_
   conv=>whnf
   refine nI ?_
   conv=>whnf
   refine nI ?_
   conv=>whnf
   refine ak _ rfl ?_
   rw[tN]
   conv=>whnf
   repeat' ((first|refine nI ?_|refine aI ?_|refine tI ?_|refine fI ?_|fail);conv=>whnf)
   refine⟨(k+1,l.set k (r.response.getD (c.states.getD k 0).toNat 0)),sI,⟨by dsimp only;omega,by simpa using h2,fun j hj=>?_⟩,by dsimp only;omega⟩
   dsimp only
   rw[ax]
   by_cases e:k=j
   ·subst e;rw[if_pos ⟨rfl,by omega⟩,if_neg (by omega),if_pos (by omega)]
   ·rw[if_neg (fun h=>e h.1),h3 j hj]
    by_cases e2:(j:Int)=x.process
    ·rw[if_pos e2,if_pos e2]
    ·rw[if_neg e2,if_neg e2]
     by_cases e3:j<k
     ·rw[if_pos e3,if_pos (by omega)]
     ·rw[if_neg e3,if_neg (by omega)]
  ·repeat' ((first|refine nI ?_|refine aI ?_|refine tI ?_|refine fI ?_|fail);conv=>whnf)
   refine⟨(k+1,l),sI,⟨by dsimp only;omega,h2,fun j hj=>?_⟩,by dsimp only;omega⟩
   rw[h3 j hj]
   dsimp only
   by_cases e2:(j:Int)=x.process
   ·rw[if_pos e2,if_pos e2]
   ·rw[if_neg e2,if_neg e2]
    by_cases e3:j<k
    ·rw[if_pos e3,if_pos (by omega)]
    ·rw[if_neg e3,if_neg (by omega)]
 obtain rfl:l=fD c r x:=dv h2 fun j hj=>by
  rw[h3 j hj]
  unfold lG
  by_cases e2:(j:Int)=x.process
  ·rw[if_pos e2,if_pos e2]
  ·rw[if_neg e2,if_neg e2,if_pos (by omega),if_neg (by omega),if_pos k3]
 repeat' ((first|refine nI ?_|refine aI ?_|refine tI ?_|refine fI ?_|fail);conv=>whnf)
 refine aR.loopF ab ac (fun k:Nat=>k<=r.send.length/\∀j,j<k->(aL c.faulty (r.send.take (j+1))).getD (r.send.getD j 0).toNat 0<=1048576) (fun k=>[(79, .int .i64 (k:Int))]) (fun k=>Dl c r (fD c r x) c.sent (aL c.faulty (r.send.take k))) (fun k=>r.send.length-k) 0 ⟨by omega,fun j hj=>by omega⟩ ?_;conv=>whnf
 refine⟨sI,?_⟩
 rintro k ⟨hk,ha⟩
 conv=>whnf
 refine ag ?_ ?_<;>(intro g1;conv=>whnf)
 ·have hm:=hse k (by omega)
  have hb:=aM (r.send.take k) c.faulty 1048576 (aN h.sent.2) (r.send.getD k 0).toNat
  have htl:(r.send.take k).length<=60:=by rw[List.length_take];omega
  have hup:=aE (l:=c.faulty) (ms:=r.send) (k:=k) (by omega)
  refine nI ?_
  rw[tN]
  conv=>whnf
  refine nI ?_
  conv=>whnf
  refine aI ?_
  conv=>whnf
  refine nI ?_
  conv=>whnf
  refine ak _ rfl ?_
  rw[<-hup]
  conv=>whnf
  refine nI ?_
  conv=>whnf
  refine ag ?_ ?_<;>(intro g2;conv=>whnf)
  ·exact .inr ⟨fun hap=>by unfold bh at hap;rw[if_neg hcor] at hap;have:=hap k (by omega);omega,rfl⟩
  ·repeat' ((first|refine nI ?_|refine aI ?_|refine tI ?_|refine fI ?_|fail);conv=>whnf)
   refine⟨k+1,sI,⟨by omega,fun j hj=>?_⟩,by dsimp only;omega⟩
   by_cases e:j=k
   ·subst e;omega
   ·exact ha j (by omega)
 ·obtain rfl:k=r.send.length:=by omega
  rw[List.take_length]
  have hap:bh c r x:=by unfold bh;rw[if_neg hcor];exact ha
  by_cases hwr:r.write=-1
  ·repeat' ((first|refine nI ?_|refine aI ?_|refine tI ?_|refine fI ?_|fail);conv=>whnf)
   refine .inl ⟨hap,?_⟩
   rw[di hcor,if_pos hwr]
   exact⟨ei rfl (bT _ _ _).symm rfl (bq _ _).symm rfl rfl,rfl,rfl,rfl,rfl⟩
  ·repeat' ((first|refine nI ?_|refine aI ?_|refine tI ?_|refine fI ?_|fail);conv=>whnf)
   refine .inl ⟨hap,?_⟩
   rw[di hcor,if_neg hwr]
   exact⟨ei rfl (bT _ _ _).symm rfl (bq _ _).symm rfl rfl,rfl,rfl,rfl,rfl⟩
theorem B4 (p:aq) (s:aB) (c:ap) (x:be) (h:cK p s c) (he:cz p s c x false):ar Tryz.prog 82 [.agg (gV p s c), .agg (cF x)] (ah.ofL []) (El c (p.rules.getD x.rule.toNat au) x):=by
 have hfit:=(aF h.val (i:=x.rule.toNat) (by have:=he.1;omega)).fit
 unfold cb at hfit
 have hcase:((p.rules.getD x.rule.toNat au).kind=1\/(p.rules.getD x.rule.toNat au).kind=4)\/(p.rules.getD x.rule.toNat au).kind=2\/(p.rules.getD x.rule.toNat au).kind=5\/(p.rules.getD x.rule.toNat au).kind=3:=by omega
 by_cases hcor:x.process<c.correct
 ·rcases hcase with k|k|k|k
  ·exact BS p s c x h he k hcor
  ·exact BT p s c x h he k hcor
  ·exact BU p s c x h he k hcor
  ·exact BV p s c x h he k hcor
 ·rcases hcase with k|k|k|k
  ·exact BW p s c x h he k hcor
  ·exact BX p s c x h he k hcor
  ·exact BZ p s c x h he k hcor
  ·exact B3 p s c x h he k hcor
def i5 (c:ap) (r:cY) (v:Int) (st se fa:List Int):List (Nat×bj):=[(6,Jo),(8,Jp r),(9,Jn c v),(1001,cH c.shape),(1002,cH st),(1003,cH se),(1004,cH fa)]
theorem ep {l ms:List Int} {k:Nat} (ha:∀j,j<k->(aL l (ms.take (j+1))).getD (ms.getD j 0).toNat 0<=1048576) (h:(aL l (ms.take (k+1))).getD (ms.getD k 0).toNat 0<=1048576):∀j,j<k+1->(aL l (ms.take (j+1))).getD (ms.getD j 0).toNat 0<=1048576:=fun j hj=>by
 by_cases e:j=k
 ·subst e;exact h
 ·exact ha j (by omega)
end Go.Proofs.YtblcpnmnibcbbaaGreatDoor
