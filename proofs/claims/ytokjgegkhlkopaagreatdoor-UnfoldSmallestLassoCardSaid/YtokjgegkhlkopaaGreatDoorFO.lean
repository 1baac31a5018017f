import Derived.Test.YtokjgegkhlkopaaGreatDoorMN
set_option linter.unusedVariables false
set_option linter.unusedSimpArgs false
namespace Go.Proofs.YtokjgegkhlkopaaGreatDoor
section
set_option maxRecDepth 100000
section
variable {P:Program} {S F:ag} {ρ:aw} {M:ai} {w:World}
variable {tt:TT} {D:List Nat}
theorem aE.seqW {a b:Code} {fr:List AV} {Q:bR} (hx:aE P D a fr M fun e fr' M'=>match e with
  |.normal=>aE P D b fr' M' Q
  |.exit i=>Q (.exit i) fr' M'
  |.ret=>Q .ret fr' M'):aE P D (.seq a b) fr M Q:=by
 rw[cp] at hx⊢
 intro S F ρ0 ρ act w h0 h1 hM hF
 refine wp_seq (wp_mono (hx S F ρ0 ρ act w h0 h1 hM hF) ?_)
 rintro e a' w' ⟨ex,he,f,M',S',ρ',k,k1,k2,k3,k4,k5⟩
 cases e with
 |normal=>
  cases he
  refine wp_mono (cp.1 k S' F ρ0 ρ' a' w' h0 k2 k3 k4) ?_
  rintro e2 a2 w2 ⟨ex2,he2,ha⟩
  exact⟨ex2,he2,ha.trans k1 (aw.le_refl _) k5⟩
 |exit i=>cases he;exact⟨_,rfl,f,M',S',ρ',k,k1,k2,k3,k4,k5⟩
 |ret=>cases he;exact⟨_,rfl,f,M',S',ρ',k,k1,k2,k3,k4,k5⟩
 |goto l=>cases he
 |panic l=>cases he
 |outgrown=>cases he
theorem aE.seqC {a b:Code} {fr:List AV} {Q:bR} (hT:aW P tt=true) (hm:P.follows .mixedOrders=true) (h:fx P tt D a fr M fun e fr' M'=>match e with
  |.normal=>aE P D b fr' M' Q
  |.exit i=>Q (.exit i) fr' M'
  |.ret=>Q .ret fr' M'):aE P D (.seq a b) fr M Q:=aE.seqW (aZ hT hm a fr M _ h)
theorem aE.seqS {a b:Code} {fr fr2:List AV} {M2:ai} {Q:bR} (hT:aW P tt=true) (hm:P.follows .mixedOrders=true) (h:fx P tt D a fr M fun e fr' M'=>e= .normal/\aM D fr' M' fr2 M2) (h2:aE P D b fr2 M2 Q):aE P D (.seq a b) fr M Q:=by
 refine aE.seqW ((aZ hT hm a fr M _ h).mono ?_)
 rintro e fr' M' ⟨rfl,hs⟩
 exact aE.sub hs h2
theorem an.introW (hT:aW P tt=true) {f:FuncId} {fn:Func} {c:Code} {args:List AV} (L:List (Nat×aX)) {R:AV->ai->Prop} (hf:P.funcs[f]? =some fn) (hb:fn.body=some c) (hn:(fn.name== "runtime.NumGoroutine")=false)
  (h:mv args (fn.ntmps-args.length) fun fr=>aE P (L.map (·.1)) c fr (ai.ofL L) (B4 tt fn.results.toList R)):an P f args (ai.ofL L) R:=by
 rw[bT]
 refine⟨jN hf hb hn,fun S F ρ vs w hM hv=>?_⟩
 have hD:gZ ρ (L.map (·.1)):=fun ℓ b hb=>by
  have:=hM.dom ℓ b hb
  cases hB:ai.ofL L ℓ with
  |none=>exact absurd hB this
  |some B=>exact List.mem_map_of_mem (f:=(·.1)) (eO hB)
 refine oS (D:=L.map (·.1)) (Q:=B4 tt fn.results.toList R) hf hb h hD hM hv fun e a' w' ha hd=>?_
 obtain⟨fr,M',S',ρ',hk,h1,h2,h3,h4,h5⟩:=ha
 have fin:mP tt fr M' fn.results.toList (fun us=>R (fP us) M')->∃v,(results fn a'.tmps).run P w'= .ok v w'/\ld S F ρ w R (.returned v) w':=by
  intro hk
  obtain⟨vs',us,hK,hvs,hl,hr⟩:=jg hT h3 h4 _ _ hk
  exact⟨_,fy hr,_,_,M',S',ρ',rfl,hK,h1,h2,h3,jM hvs,h5⟩
 cases e with
 |normal=>exact⟨by simp,fin hk⟩
 |ret=>exact⟨by simp,fin hk⟩
 |exit i=>exact hk.elim
theorem aE.seqX {a b:Code} {fr:List AV} {Q:bR} {X:Type _} (I:X->Prop) (fr2:X->List AV) (M2:X->ai) (hT:aW P tt=true) (hm:P.follows .mixedOrders=true) (h:fx P tt D a fr M fun e fr' M'=>e= .normal/\∃x,I x/\aM D fr' M' (fr2 x) (M2 x)) (h2:∀x,I x->aE P D b (fr2 x) (M2 x) Q):aE P D (.seq a b) fr M Q:=by
 refine aE.seqW ((aZ hT hm a fr M _ h).mono ?_)
 rintro e fr' M' ⟨rfl,x,hx,hs⟩
 exact aE.sub hs (h2 x hx)
theorem ae.introW (hT:aW P tt=true) {f:FuncId} {fn:Func} {c:Code} {args:List AV} {R:AV->Prop} (hf:P.funcs[f]? =some fn) (hb:fn.body=some c) (hn:(fn.name== "runtime.NumGoroutine")=false)
  (h:mv args (fn.ntmps-args.length) fun fr=>aE P [] c fr ai.none (JT tt fn.results.toList R)):ae P f args R:=by
 rw[eM]
 refine⟨jN hf hb hn,fun S F vs w hg hs hfr hd hv=>?_⟩
 refine oS (M:=ai.none) (ρ0:=fun _=>none) (D:=[]) (Q:=JT tt fn.results.toList R) hf hb h (fun ℓ b hb=>by cases hb) ⟨hs,hfr,hd,by simp,by simp[ai.none],by simp,hg⟩ (hv.rv _) fun e a' w' ha hd'=>?_
 obtain⟨fr,M',S',ρ',hk,h1,h2,h3,h4,h5⟩:=ha
 have fin:(mP tt fr M' fn.results.toList fun us=>jL us M' fun us' _=>R (fP us')/\bX 5 (fP us')=true)->∃v,(results fn a'.tmps).run P w'= .ok v w'/\nn S F w R (.returned v) w':=by
  intro hk
  obtain⟨vs',us,hK,hvs,hl,hr⟩:=jg hT h3 h4 _ _ hk
  obtain⟨us',M2,S2,⟨hR,hp⟩,hle,hvs2,hM2⟩:=gN _ _ _ _ _ hK hvs h3
  exact⟨_,fy hr,_,_,S2,rfl,hR,ag.le_trans h1 hle,hM2.sw,hM2.fw,hM2.sf,jI 5 hp (jM hvs2),h5⟩
 cases e with
 |normal=>exact⟨by simp,fin hk⟩
 |ret=>exact⟨by simp,fin hk⟩
 |exit i=>exact hk.elim
end
end
section
set_option maxRecDepth 100000
set_option maxHeartbeats 16000000
def EZ:List AV:=[.nilsl, .nilsl, .int .i64 0, .nilsl, .nilsl, .int .i64 0]
def HG (c:ap) (r:dh) (x:aQ):AV->ai->Prop:=fun u M=>(bo c r x/\OI 1001 1002 1003 1004 (cb c r x) 0 u M)\/(¬bo c r x/\u= .tup [.agg EZ, .int .i64 4])
def Oh (c:ap) (v:Int):aX:=.box 38 [.row 1001 c.shape.length 1, .row 1002 c.states.length 1, .int .i64 c.correct, .row 1003 c.sent.length 1, .row 1004 c.faulty.length 1, .int .i64 v]
def Oi:aX:=.box 38 EZ
def Oj (r:dh):aX:=.box 87 (fD r)
def GB (c:ap) (r:dh) (st se fa:List Int):List (Nat×aX):=[(4,Oi),(6,Oj r),(7,Oh c c.value),(1001,bG c.shape),(1002,bG st),(1003,bG se),(1004,bG fa)]
theorem gV {p:ao} {s:az} {c:ap} {r:dh} {x:aQ} {f:Bool} (h:Jc p s c r x f) (hk:r.kind=2\/r.kind=5):xH c r x:=by
 have:=h.2.2
 unfold tb at this
 rw[if_pos hk] at this
 exact this.1
theorem eZ {a b d e:Nat} {c:ap} {n1 n2 n3 n4:Nat} {k v:Int} (h1:n1=c.shape.length) (h2:n2=c.states.length) (h3:n3=c.sent.length) (h4:n4=c.faulty.length) (h5:k=c.correct) (h6:v=c.value):
  AV.tup [.agg [.row a n1 1, .row b n2 1, .int .i64 k, .row d n3 1, .row e n4 1, .int .i64 v], .int .i64 0]= .tup [Cn a b d e c, .int .i64 0]:=by
 subst h1;subst h2;subst h3;subst h4;subst h5;subst h6;rfl
theorem dx {c:ap} {r:dh} {x:aQ} (h:x.process<c.correct):cb c r x=⟨c.shape,f8 c r x,c.correct,aO c.sent r.send,c.faulty,if r.write=-1 then c.value else r.write⟩:=by
 unfold cb;rw[if_pos h,if_pos h]
theorem dy {c:ap} {r:dh} {x:aQ} (h:¬x.process<c.correct):cb c r x=⟨c.shape,f8 c r x,c.correct,c.sent,aO c.faulty r.send,if r.write=-1 then c.value else r.write⟩:=by
 unfold cb;rw[if_neg h,if_neg h]
theorem Kx (p:ao) (s:az) (c:ap) (x:aQ) (h:c9 p s c) (he:cz p s c x false):an Tryz.prog 87 [.agg (iP p s c), .agg (cH x)] (ai.ofL []) (HG c (p.rules.getD x.rule.toNat au) x):=by
 have hle:=aF h.big
 have hc:=aL h.wide
 obtain⟨hin,hen⟩:=he
 have hR:=aK h.val (i:=x.rule.toNat) (by omega)
 have hB:=aY h.big (j:=x.rule.toNat) (by omega)
 have hsn:=h.vc.snl
 have hfa:=h.vc.fal
 have hsta:=h.vc.sta
 have hco:0<=c.correct/\c.correct<=8:=by
  have:=h.vc.cor
  have:=h.sz
  omega
 refine an.introW ab [] Tryz.func87 rfl (by decide) ?_
 dsimp only[mv,List.append,List.length,Nat.sub]
 refine aE.seqC ab ac ?_
 conv=>whnf
 refine am rfl ?_
 conv=>whnf
 refine am rfl ?_
 conv=>whnf
 refine aE.seqC ab ac ?_
 conv=>whnf
 refine nI ?_
 generalize p.rules.getD x.rule.toNat au=r at hen hR hB⊢
 have hbr:=br hB
 have hrd:=hR.read
 have hfit:=hR.fit
 unfold cj at hfit
 have hse:=hR.send
 have hpl:x.process.toNat<c.states.length:=by omega
 have hpc:((x.process.toNat:Nat):Int)=x.process:=by omega
 have hpr:=fun k=>gV (r:=r) hen k
 conv=>whnf
 refine aE.seqC ab ac ?_
 conv=>whnf
 refine an.news 400 (mU 5 9 13 17) (fT c) (fS c) (iQ c h.wide) (aa) rfl gn ?_
 conv=>whnf
 refine aE.seqC ab ac ?_
 conv=>whnf
 refine nI ?_
 conv=>whnf
 refine ak _ rfl ?_
 conv=>whnf
 refine aE.seqS (fr2:=(.top:: .top::(.pd (iP p s c))::(.pd (cH x))::(.ptr 4 0)::(.int .i64 0)::(.ptr 6 0)::(.ptr 7 0)::T 95)) (M2:=ai.ofL (GB c r (f8 c r x) c.sent c.faulty)) ab ac ?_ ?_
 ·conv=>whnf
  by_cases k25:r.kind=2\/r.kind=5
  ·obtain⟨g1,g2,g3,g4⟩:=hpr k25
   have hst:(c.states.set x.process.toNat r.dst).set x.partner.toNat r.pto=f8 c r x:=dN (by simp) fun j hj=>by
    rw[aB,aB,List.length_set]
    unfold mV
    by_cases e2:x.partner.toNat=j
    ·rw[if_pos ⟨e2,by omega⟩,if_neg (by omega),if_pos ⟨k25,by omega⟩]
    ·rw[if_neg (fun h=>e2 h.1)]
     by_cases e:x.process.toNat=j
     ·rw[if_pos ⟨e,by omega⟩,if_pos (by omega)]
     ·rw[if_neg (fun h=>e h.1),if_neg (by omega),if_neg (fun h=>e2 (by omega)),if_neg (by omega)]
   rcases k25 with k|k
   all_goals
    repeat' (first|(refine tI ?_;conv=>whnf)|(refine fI ?_;conv=>whnf)|fail)
    refine d7 ⟨g1,g2⟩ ?_
    conv=>whnf
    refine ak _ rfl ?_
    rw[hst]
    conv=>whnf
    exact⟨rfl,sI⟩
  by_cases k3:r.kind=3
  ·obtain⟨hrl,hri⟩:=hR.resp k3
   repeat' ((first|refine nI ?_|refine aI ?_|refine tI ?_|refine fI ?_|fail);conv=>whnf)
   refine aE.loopF ab ac (fun z:Nat×List Int=>z.1<=c.states.length/\z.2.length=c.states.length/\∀j,j<c.states.length->z.2.getD j 0=if(j:Int)=x.process then r.dst else if j<z.1 then r.response.getD (c.states.getD j 0).toNat 0 else c.states.getD j 0) (fun z=>[(48, .int .i64 (z.1:Int))]) (fun z=>GB c r z.2 c.sent c.faulty) (fun z=>c.states.length-z.1) (0,c.states.set x.process.toNat r.dst) ⟨Nat.zero_le _,by simp,fun j hj=>by
    dsimp only
    rw[aB]
    by_cases e:x.process.toNat=j
    ·rw[if_pos ⟨e,by omega⟩,if_pos (by omega)]
    ·rw[if_neg (fun h=>e h.1),if_neg (by omega),if_neg (by omega)]⟩ ?_;conv=>whnf
   refine⟨sI,?_⟩
   rintro⟨k,l⟩ ⟨h1,h2,h3⟩
   dsimp only at h1 h2 h3⊢
   conv=>whnf
   refine ah ?_ ?_<;>(intro g1;conv=>whnf)
   case' refine_1=>
    have hy:=hsta k (by omega)
    refine nI ?_
    rw[tN]
    conv=>whnf
    refine ah ?_ ?_<;>(intro g2;conv=>whnf)
    ·refine dR ?_
     conv=>whnf
     refine nI ?_
     conv=>whnf
     refine nI ?_
     conv=>whnf
     refine ak _ rfl ?_
     rw[tN]
     conv=>whnf
     repeat' ((first|refine nI ?_|refine aI ?_|refine tI ?_|refine fI ?_|fail);conv=>whnf)
     refine⟨(k+1,l.set k (r.response.getD (c.states.getD k 0).toNat 0)),sI,⟨by dsimp only;omega,by simpa using h2,fun j hj=>?_⟩,by dsimp only;omega⟩
     dsimp only
     rw[aB]
     by_cases e:k=j
     ·subst e;rw[if_pos ⟨rfl,by omega⟩,if_neg (by omega),if_pos (by omega)]
     ·rw[if_neg (fun h=>e h.1),h3 j hj]
      by_cases e2:(j:Int)=x.process
      ·rw[if_pos e2,if_pos e2]
      ·rw[if_neg e2,if_neg e2]
       by_cases e3:j<k
       ·rw[if_pos e3,if_pos (by omega)]
       ·rw[if_neg e3,if_neg (by omega)]
    ·repeat' ((first|refine nI ?_|refine aI ?_|refine tI ?_|refine fI ?_|fail);conv=>whnf)
     refine⟨(k+1,l),sI,⟨by dsimp only;omega,h2,fun j hj=>?_⟩,by dsimp only;omega⟩
     rw[h3 j hj]
     dsimp only
     by_cases e2:(j:Int)=x.process
     ·rw[if_pos e2,if_pos e2]
     ·rw[if_neg e2,if_neg e2]
      by_cases e3:j<k
      ·rw[if_pos e3,if_pos (by omega)]
      ·rw[if_neg e3,if_neg (by omega)]
   obtain rfl:l=f8 c r x:=dN h2 fun j hj=>by
    rw[h3 j hj]
    unfold mV
    by_cases e2:(j:Int)=x.process
    ·rw[if_pos e2,if_pos e2]
    ·rw[if_neg e2,if_neg e2,if_pos (by omega),if_neg (by omega),if_pos k3]
   repeat' ((first|refine nI ?_|refine aI ?_|refine tI ?_|refine fI ?_|fail);conv=>whnf)
   exact⟨rfl,sI⟩
  ·have hst:c.states.set x.process.toNat r.dst=f8 c r x:=dN (by simp) fun j hj=>by
    rw[aB]
    unfold mV
    by_cases e:x.process.toNat=j
    ·rw[if_pos ⟨e,by omega⟩,if_pos (by omega)]
    ·rw[if_neg (fun h=>e h.1),if_neg (by omega),if_neg (fun h=>k25 h.1),if_neg k3]
   rw[<-hst]
   repeat' (refine fI ?_;conv=>whnf)
   exact⟨rfl,sI⟩
 refine aZ ab ac _ _ _ _ ?_
 conv=>whnf
 by_cases hcor:x.process<c.correct
 ·refine fI ?_
  conv=>whnf
  refine aE.loopF ab ac (fun k:Nat=>k<=r.send.length/\∀j,j<k->(aO c.sent (r.send.take (j+1))).getD (r.send.getD j 0).toNat 0<=1048576) (fun k=>[(79, .int .i64 (k:Int))]) (fun k=>GB c r (f8 c r x) (aO c.sent (r.send.take k)) c.faulty) (fun k=>r.send.length-k) 0 ⟨by omega,fun j hj=>by omega⟩ ?_;conv=>whnf
  refine⟨sI,?_⟩
  rintro k ⟨hk,ha⟩
  conv=>whnf
  refine ah ?_ ?_<;>(intro g1;conv=>whnf)
  ·have hm:=hse k (by omega)
   have hb:=aU (r.send.take k) c.sent 1048576 (aV h.sent.1) (r.send.getD k 0).toNat
   have htl:(r.send.take k).length<=60:=by rw[List.length_take];omega
   have hup:=aJ (l:=c.sent) (ms:=r.send) (k:=k) (by omega)
   refine nI ?_
   rw[tN]
   conv=>whnf
   refine nI ?_
   conv=>whnf
   refine aI ?_
   conv=>whnf
   refine nI ?_
   conv=>whnf
   refine ak _ rfl ?_
   rw[<-hup]
   conv=>whnf
   refine nI ?_
   conv=>whnf
   refine ah ?_ ?_<;>(intro g2;conv=>whnf)
   ·exact .inr ⟨fun hap=>by unfold bo at hap;rw[if_pos hcor] at hap;have:=hap k (by omega);omega,rfl⟩
   ·repeat' ((first|refine nI ?_|refine aI ?_|refine tI ?_|refine fI ?_|fail);conv=>whnf)
    refine⟨k+1,sI,⟨by omega,fun j hj=>?_⟩,by dsimp only;omega⟩
    by_cases e:j=k
    ·subst e;omega
    ·exact ha j (by omega)
  obtain rfl:k=r.send.length:=by omega
  rw[List.take_length]
  have hap:bo c r x:=by unfold bo;rw[if_pos hcor];exact ha
  by_cases hwr:r.write=-1
  all_goals
   repeat' ((first|refine nI ?_|refine aI ?_|refine tI ?_|refine fI ?_|fail);conv=>whnf)
   refine .inl ⟨hap,?_⟩
   first|rw[dx hcor,if_pos hwr]|rw[dx hcor,if_neg hwr]
   exact⟨eZ rfl (cd _ _ _).symm (bA _ _).symm rfl rfl rfl,rfl,rfl,rfl,rfl⟩
 ·refine tI ?_
  conv=>whnf
  refine aE.loopF ab ac (fun k:Nat=>k<=r.send.length/\∀j,j<k->(aO c.faulty (r.send.take (j+1))).getD (r.send.getD j 0).toNat 0<=1048576) (fun k=>[(79, .int .i64 (k:Int))]) (fun k=>GB c r (f8 c r x) c.sent (aO c.faulty (r.send.take k))) (fun k=>r.send.length-k) 0 ⟨by omega,fun j hj=>by omega⟩ ?_;conv=>whnf
  refine⟨sI,?_⟩
  rintro k ⟨hk,ha⟩
  conv=>whnf
  refine ah ?_ ?_<;>(intro g1;conv=>whnf)
  ·have hm:=hse k (by omega)
   have hb:=aU (r.send.take k) c.faulty 1048576 (aV h.sent.2) (r.send.getD k 0).toNat
   have htl:(r.send.take k).length<=60:=by rw[List.length_take];omega
   have hup:=aJ (l:=c.faulty) (ms:=r.send) (k:=k) (by omega)
   refine nI ?_
   rw[tN]
   conv=>whnf
   refine nI ?_
   conv=>whnf
   refine aI ?_
   conv=>whnf
   refine nI ?_
   conv=>whnf
   refine ak _ rfl ?_
   rw[<-hup]
   conv=>whnf
   refine nI ?_
   conv=>whnf
   refine ah ?_ ?_<;>(intro g2;conv=>whnf)
   ·exact .inr ⟨fun hap=>by unfold bo at hap;rw[if_neg hcor] at hap;have:=hap k (by omega);omega,rfl⟩
   ·repeat' ((first|refine nI ?_|refine aI ?_|refine tI ?_|refine fI ?_|fail);conv=>whnf)
    refine⟨k+1,sI,⟨by omega,fun j hj=>?_⟩,by dsimp only;omega⟩
    by_cases e:j=k
    ·subst e;omega
    ·exact ha j (by omega)
  obtain rfl:k=r.send.length:=by omega
  rw[List.take_length]
  have hap:bo c r x:=by unfold bo;rw[if_neg hcor];exact ha
  by_cases hwr:r.write=-1
  all_goals
   repeat' ((first|refine nI ?_|refine aI ?_|refine tI ?_|refine fI ?_|fail);conv=>whnf)
   refine .inl ⟨hap,?_⟩
   first|rw[dy hcor,if_pos hwr]|rw[dy hcor,if_neg hwr]
   exact⟨eZ rfl (cd _ _ _).symm rfl (bA _ _).symm rfl rfl,rfl,rfl,rfl,rfl⟩
def jV (c:ap) (r:dh) (v:Int) (st se fa:List Int):List (Nat×aX):=[(6,Oi),(8,Oj r),(9,Oh c v),(1001,bG c.shape),(1002,bG st),(1003,bG se),(1004,bG fa)]
theorem e7 {l ms:List Int} {k:Nat} (ha:∀j,j<k->(aO l (ms.take (j+1))).getD (ms.getD j 0).toNat 0<=1048576) (h:(aO l (ms.take (k+1))).getD (ms.getD k 0).toNat 0<=1048576):∀j,j<k+1->(aO l (ms.take (j+1))).getD (ms.getD j 0).toNat 0<=1048576:=fun j hj=>by
 by_cases e:j=k
 ·subst e;exact h
 ·exact ha j (by omega)
end
end Go.Proofs.YtokjgegkhlkopaaGreatDoor
