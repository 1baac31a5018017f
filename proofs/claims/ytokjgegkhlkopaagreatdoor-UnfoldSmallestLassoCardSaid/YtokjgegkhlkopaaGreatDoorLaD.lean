import Derived.Test.YtokjgegkhlkopaaGreatDoorLaA
import Derived.Test.YtokjgegkhlkopaaGreatDoorMG
set_option linter.unusedVariables false
set_option linter.unusedSimpArgs false
namespace Go.Proofs.YtokjgegkhlkopaaGreatDoor
set_option maxRecDepth 100000
set_option maxHeartbeats 16000000
def Gb:AV->(AV->Prop)->Prop
 |.top,k=>k .top
 |.int a b,k=>k (.int a b)
 |.bool a,k=>k (.bool a)
 |.str a,k=>k (.str a)
 |.nilsl,k=>k .nilsl
 |.val a,k=>k (.val a)
 |.sl a b c,k=>k (.sl a b c)
 |.slc a b c,k=>k (.slc a b c)
 |.fn a b,k=>k (.fn a b)
 |.ptr a b,k=>k (.ptr a b)
 |.row a b c,k=>k (.row a b c)
 |.rel a b c,k=>k (.rel a b c)
 |.part a b c d,k=>k (.part a b c d)
 |.mp a,k=>k (.mp a)
 |.agg cs,k=>k (.agg cs)
 |.tup cs,k=>k (.tup cs)
 |.pd cs,k=>k (.pd cs)
theorem C3 (u:AV) (k:AV->Prop):Gb u k=k u:=by cases u<;>rfl
def sH:List AV->(List AV->Prop)->Prop
 |[],k=>k []
 |u::us,k=>Gb u fun u'=>sH us fun us'=>k (u'::us')
theorem uB:∀(us:List AV) (k:List AV->Prop),sH us k=k us
 |[],_=>rfl
 |u::us,k=>by rw[sH,C3,uB us]
def z1:AV->(AV->Prop)->Prop
 |.top,k=>k .top
 |.int a b,k=>k (.int a b)
 |.bool a,k=>k (.bool a)
 |.str a,k=>k (.str a)
 |.nilsl,k=>k .nilsl
 |.val a,k=>k (.val a)
 |.sl a b c,k=>k (.sl a b c)
 |.slc a b c,k=>k (.slc a b c)
 |.fn a b,k=>k (.fn a b)
 |.ptr a b,k=>k (.ptr a b)
 |.row a b c,k=>k (.row a b c)
 |.rel a b c,k=>k (.rel a b c)
 |.part a b c d,k=>k (.part a b c d)
 |.mp a,k=>k (.mp a)
 |.agg cs,k=>sH cs fun cs'=>k (.agg cs')
 |.tup cs,k=>k (.tup cs)
 |.pd cs,k=>sH cs fun cs'=>k (.pd cs')
theorem C4 (u:AV) (k:AV->Prop):z1 u k=k u:=by
 cases u<;>first|rfl|(simp only[z1,uB])
def sJ:List AV->(List AV->Prop)->Prop
 |[],k=>k []
 |u::us,k=>z1 u fun u'=>sJ us fun us'=>k (u'::us')
theorem pi:∀(us:List AV) (k:List AV->Prop),sJ us k=k us
 |[],_=>rfl
 |u::us,k=>by rw[sJ,C4,pi us]
section
variable {P:Program} {tt:TT} {rd:Option Nat} {C:kG} {D:List Nat} {M:ai}
theorem fm.seqW (hC:∀S S' F ρ0,S.le S'->C S F ρ0->C S' F ρ0) {a b:Code} {fr:List AV} {Q:bR} (hx:fm P rd C D a fr M fun e fr' M'=>match e with
  |.normal=>fm P rd C D b fr' M' Q
  |.exit i=>Q (.exit i) fr' M'
  |.ret=>Q .ret fr' M'):fm P rd C D (.seq a b) fr M Q:=by
 refine⟨fun N S F ρ0 ρ act w hN hc h0 h1 hM hF=>?_⟩
 refine wpIn_seq (wpIn_mono (hx.out N S F ρ0 ρ act w hN hc h0 h1 hM hF) ?_)
 rintro e a' w' ⟨ex,he,f,M',S',ρ',k,k1,k2,k3,k4,k5⟩
 cases e with
 |normal=>
  cases he
  refine wpIn_mono (fm.out k N S' F ρ0 ρ' a' w' (Nat.le_trans hN k5.size) (hC _ _ _ _ k1 hc) h0 k2 k3 k4) ?_
  rintro e2 a2 w2 ⟨ex2,he2,ha⟩
  exact⟨ex2,he2,ha.trans k1 (aw.le_refl _) k5⟩
 |exit i=>cases he;exact⟨_,rfl,f,M',S',ρ',k,k1,k2,k3,k4,k5⟩
 |ret=>cases he;exact⟨_,rfl,f,M',S',ρ',k,k1,k2,k3,k4,k5⟩
 |goto l=>cases he
 |panic l=>cases he
 |outgrown=>cases he
theorem fm.seqC (hT:aW P tt=true) (hm:P.follows .mixedOrders=true) {a b:Code} {fr:List AV} {Q:bR} (h:f9 P tt rd mW D a fr M fun e fr' M'=>match e with
  |.normal=>fm P rd mW D b fr' M' Q
  |.exit i=>Q (.exit i) fr' M'
  |.ret=>Q .ret fr' M'):fm P rd mW D (.seq a b) fr M Q:=fm.seqW cX (iR hT hm cX a fr M _ h)
theorem fm.ofY (hT:aW P tt=true) (hm:P.follows .mixedOrders=true) {a:Code} {fr:List AV} {Q:bR} (h:f9 P tt rd mW D a fr M Q):fm P rd mW D a fr M Q:=iR hT hm cX a fr M Q h
theorem fm.block {id:Nat} {c:Code} {fr:List AV} {Q:bR} (hx:fm P rd C D c fr M fun e fr' M'=>match e with
  |.normal=>Q .normal fr' M'
  |.exit i=>match Nat.beq i id with
   |true=>Q .normal fr' M'
   |false=>Q (.exit i) fr' M'
  |.ret=>Q .ret fr' M'):fm P rd C D (.block id c) fr M Q:=by
 refine⟨fun N S F ρ0 ρ act w hN hc h0 h1 hM hF=>?_⟩
 refine wpIn_block (wpIn_mono (hx.out N S F ρ0 ρ act w hN hc h0 h1 hM hF) ?_)
 rintro e a' w' ⟨ex,he,f,M',S',ρ',k,k1,k2,k3,k4,k5⟩
 cases e with
 |normal=>cases he;exact⟨_,rfl,f,M',S',ρ',k,k1,k2,k3,k4,k5⟩
 |exit i=>
  cases he
  simp only[Exit.inBlock]
  simp only at k
  split at k
  ·rename_i hb
   rw[if_pos (Nat.eq_of_beq_eq_true hb)]
   exact⟨_,rfl,f,M',S',ρ',k,k1,k2,k3,k4,k5⟩
  ·rename_i hb
   rw[if_neg (fun e=>by subst e;simp at hb)]
   exact⟨_,rfl,f,M',S',ρ',k,k1,k2,k3,k4,k5⟩
 |ret=>cases he;exact⟨_,rfl,f,M',S',ρ',k,k1,k2,k3,k4,k5⟩
 |goto l=>cases he
 |panic l=>cases he
 |outgrown=>cases he
theorem fm.condT {c:Operand} {x y:Code} {fr:List AV} {Q:bR} (hc:dA fr c= .bool true) (h:fm P rd C D x fr M Q):fm P rd C D (.cond c x y) fr M Q:=by
 refine⟨fun N S F ρ0 ρ a w hN hcc h0 h1 hM hF=>?_⟩
 have hcv:=hF.f.eval c
 have he:({a with defers:=[]}:Act).eval c=a.eval c:=by cases c<;>rfl
 rw[he,hc] at hcv
 exact wpIn_cond_true hcv.bool_inv (h.out N S F ρ0 ρ a w hN hcc h0 h1 hM hF)
theorem fm.condF {c:Operand} {x y:Code} {fr:List AV} {Q:bR} (hc:dA fr c= .bool false) (h:fm P rd C D y fr M Q):fm P rd C D (.cond c x y) fr M Q:=by
 refine⟨fun N S F ρ0 ρ a w hN hcc h0 h1 hM hF=>?_⟩
 have hcv:=hF.f.eval c
 have he:({a with defers:=[]}:Act).eval c=a.eval c:=by cases c<;>rfl
 rw[he,hc] at hcv
 exact wpIn_cond_false hcv.bool_inv (h.out N S F ρ0 ρ a w hN hcc h0 h1 hM hF)
theorem fm.lend {c:Code} {fr:List AV} {Q:bR} (ls:List Nat) (n:Nat) (h:sJ (fr.map (borD (bS M ls) n)) fun fr'=>fm P rd mW D c fr' (gQ M ls n) Q):fm P rd mW D c fr M Q:=by
 rw[pi] at h
 refine⟨fun N S F ρ0 ρ a w hN hc h0 h1 hM hF=>?_⟩
 have hle:=du hM ls
 obtain⟨f1,Ds,f2,f3,f4⟩:=hF
 refine wpIn_mono (h.out N _ F ρ0 ρ a w hN trivial h0 h1 (hM.lendL ls n) ⟨be.map_of f1 (mq hM ls n),Ds,f2,f3,fun k hk=>⟨(f4 k hk).1,hle _ _ (f4 k hk).2⟩⟩) ?_
 rintro e a' w' ⟨x,hx,ha⟩
 exact⟨x,hx,ha.trans hle (aw.le_refl _) (ce.refl _)⟩
theorem aE.lend {c:Code} {fr:List AV} {Q:bR} (ls:List Nat) (n:Nat) (h:sJ (fr.map (borD (bS M ls) n)) fun fr'=>aE P D c fr' (gQ M ls n) Q):aE P D c fr M Q:=by
 rw[pi] at h
 exact aE.sub (aM.lendD ls n ⟨fun S F ρ0 ρ a w _ h1 hM hF=>⟨S,ρ,ag.le_refl _,h1,hM,hF⟩⟩) h
theorem YS.roundW (hT:aW P tt=true) (hm:P.follows .mixedOrders=true) {lb l:Nat} {r:Loop} {fr:List AV} {t:Tmp} {u:AV} {K:AV->ai->Prop} (hr1:r.state= .ready) (hr2:r.pending=none) (hr3:r.params=#[t]) {asg bdy:Code} (hr4:r.assign=asg) (hr5:r.body=bdy)
  (hl:M lb=some (.obj (.loop r)))
  (h:uZ fr t u fun fr1=>f9 P tt (some l) mW D asg fr1 M fun e fr2 M2=>match e with
   |.normal=>M2 lb=some (.obj (.loop r))/\fm P (some l) mW D bdy fr2 (M2.set lb (.obj (.loop (pE r)))) fun e _ M3=>M3 lb=some (.obj (.loop (pE r)))/\match e with
    |.normal=>∃L,aM D [] (M3.set lb (.obj (.loop r))) [] (ai.ofL L)/\K (.bool true) (ai.ofL L)
    |_=>False
   |_=>False):YS P (Fj lb l r fr) D (.func (.yield l) #[] #[]) [u] M K:=by
 subst hr4;subst hr5
 rw[nu] at h
 refine⟨fun S F ρ0 ρ vs w ⟨⟨b,hb,hbl⟩,hfr⟩ h0 h1 hM hv=>?_⟩
 subst hbl
 obtain⟨v,vs',rfl,hv1,hv2⟩:=hv.cons_inv
 have hvs':vs'=[]:=by have:=hv2.1;simpa using this
 subst hvs'
 have hw:=hM.objAt hl (h1 _ _ hb)
 refine⟨b.blk,r.fn,_,r.assign,r.body,rfl,run_yield hw (by rw[hr3];rfl),?_⟩
 refine roundIn_of_wpIn (F:=Fence.wide) trivial ?_
 have htm:(r.params.zip [v].toArray).foldl (fun tmps (t,a)=>tmps.setIfInBounds t a) r.tmps=r.tmps.setIfInBounds t v:=by rw[hr3];simp
 rw[htm]
 have hG:kF 0 S ρ {tmps:=r.tmps.setIfInBounds t v,defers:=[]} (fr.set t u):=by
  refine⟨?_,gF.nil _ _⟩
  have:=(hfr.mono (ag.le_refl S) h1).set_ t (RV.p (ρ:=ρ) hv1)
  simpa using this
 refine wpIn_mono ((iR (rd:=some b.blk) hT hm cX r.assign _ _ _ h).out 0 S F ρ0 ρ _ w (Nat.zero_le _) trivial h0 h1 hM hG) ?_
 rintro e a1 w1 ⟨x,hx,fr2,M2,S2,ρ2,hk,k1,k2,k3,k4,k5⟩
 cases x with
 |exit i=>exact hk.elim
 |ret=>exact hk.elim
 |normal=>
  have he:e= .normal:=by cases e<;>first|rfl|cases hx
  subst he
  obtain⟨hl2,hk⟩:=hk
  have hw1:=k3.objAt hl2 (k2 _ _ hb)
  refine⟨_,run_beginRound hw1 hr1,?_⟩
  have hM2:=k3.putO hl2 (k2 _ _ hb) (.loop (pE r))
  refine wpIn_mono (hk.out 0 S2 F ρ0 ρ2 _ _ (Nat.zero_le _) trivial h0 k2 hM2 k4) ?_
  rintro e a3 w3 ⟨x,hx,fr3,M3,S3,ρ3,⟨hl3,hk3⟩,j1,j2,j3,j4,j5⟩
  have hw3:=j3.objAt hl3 (j2 _ _ hb)
  cases x with
  |exit i=>exact hk3.elim
  |ret=>exact hk3.elim
  |normal=>
   have he:e= .normal:=by cases e<;>first|rfl|cases hx
   subst he
   obtain⟨L,hsub,hK⟩:=hk3
   have hrec:({(pE r) with state:=if(none:Option Code).isNone then .ready else .done,pending:=none}:Loop)=r:=by
    obtain⟨a,b,c,d,e,f,g,h⟩:=r
    simp only at hr1 hr2
    subst hr1;subst hr2
    rfl
   have hend:=run_endRound (P:=P) none hw3
   rw[hrec] at hend
   have hM4:=j3.putO hl3 (j2 _ _ hb) (.loop r)
   rw[fj] at hsub
   obtain⟨S4,ρ4,q1,q2,q3,_⟩:=hsub S3 F ρ0 ρ3 {tmps:=#[],defers:=[]} _ h0 j2 hM4 ⟨be.nil _ _,rfl⟩
   exact⟨_,_,hend, .bool true, .bool true,_,S4,ρ4,rfl,hK,ag.le_trans k1 (ag.le_trans j1 q1),q2,q3, .bool _,((k5.trans (mi hw1 rfl rfl)).trans j5).trans (mi hw3 rfl rfl)⟩
end
theorem yo (p:ao) (ex:Bool) (l:List cS) (f:ByteArray->Option Int) (o:cS):∃m,co p ex l f o=l++m:=by
 unfold co
 split
 ·exact⟨[],(List.append_nil _).symm⟩
 ·exact⟨_,rfl⟩
theorem Bu (p:ao) (ex:Bool) (c:ap) (i:Int):∀(xs:List aQ) (y:iV),∃m,(my p ex c i xs y).1=y.1++m
 |[],y=>⟨[],(List.append_nil _).symm⟩
 |x::xs,y=>by
  obtain⟨m,h⟩:=Bu p ex c i xs (Jl p ex c i y x)
  obtain⟨m2,h2⟩:=yo p ex y.1 y.2 ⟨cb c (aH p x) x,i,x⟩
  have h2:(Jl p ex c i y x).1=y.1++m2:=h2
  rw[h2,List.append_assoc] at h
  exact⟨m2++m,h⟩
theorem NS (p:ao) (q:bn) (s:az) (ex:Bool) (S:fV p q s) (y0:iV) (h0:mH p q s ex y0) (hs0:ut p q s ex (th y0.1) 0):
  an Tryz.prog 82 [.ptr 7001 0] (ai.ofL (pb p s ex y0.1 y0.2)) (fun u M=>
   (∃y:iV,mH p q s ex y/\ut p q s ex (th y.1) y.1.length/\y.1.length<=4000/\(∃m,y.1=y0.1++m)/\u= .int .i64 0/\M=ai.ofL (yI p s ex y.1 y.2))\/
   ((¬∃L,un p q s ex L/\L.length<=4000)/\u= .int .i64 4/\∃y:iV,M=ai.ofL (yI p s ex y.1 y.2))):=by
 refine an.renorm 400 (R:=fun u M=>(∃y:iV,mH p q s ex y/\ut p q s ex (th y.1) y.1.length/\y.1.length<=4000/\(∃m,y.1=y0.1++m)/\u= .int .i64 0/\dK GC 400 M (yI p s ex y.1 y.2))\/
   ((¬∃L,un p q s ex L/\L.length<=4000)/\u= .int .i64 4/\∃y:iV,dK GC 400 M (yI p s ex y.1 y.2)\/dK Ol 400 M (yI p s ex y.1 y.2))) ?_ ?_
 case refine_2=>
  rintro u M (⟨y,h1,h2,h3,hp,rfl,h4⟩|⟨h1,rfl,y,h4|h4⟩)
  ·exact⟨GC,_, .int .i64 0,rfl,h4,rfl, .inl ⟨y,h1,h2,h3,hp,rfl,rfl⟩⟩
  ·exact⟨GC,_, .int .i64 4,rfl,h4,rfl, .inr ⟨h1,rfl,y,rfl⟩⟩
  ·exact⟨Ol,_, .int .i64 4,rfl,h4,rfl, .inr ⟨h1,rfl,y,rfl⟩⟩
 refine an.intro ab ac (pb p s ex y0.1 y0.2) Tryz.func82 rfl (by decide) ?_
 conv=>whnf
 refine aE.loopF ab ac (fun z:Nat×iV=>mH p q s ex z.2/\ut p q s ex (th z.2.1) z.1/\∃m,z.2.1=y0.1++m) (fun z=>[(3, .int .i64 (z.1:Int))]) (fun z=>yI p s ex z.2.1 z.2.2) (fun z=>4001-z.1) (0,y0) ⟨h0,hs0,[],(List.append_nil _).symm⟩ ?_;conv=>whnf
 refine⟨aM.by_ [(7001, .old 7001),(7002, .old 7002),(7003, .old 7003),(7004, .old 7003)] _ 400 rfl (aa) (aa),?_⟩
 rintro⟨k,y⟩ ⟨h1,h2,hp⟩
 dsimp only at h1 h2 hp⊢
 have hle:=h2.le
 rw[ik] at hle
 conv=>whnf
 refine ah ?_ ?_<;>(intro g1;conv=>whnf)
 ·have hlt:k<y.1.length:=by omega
  refine ah ?_ ?_<;>(intro g2;conv=>whnf)
  ·exact .inr ⟨h2.many S (by rw[ik];omega),rfl,y, .inl (aa)⟩
  ·have hr:=h1.og.rdy S hlt
   refine an.call [(7001, .old 7001),(7002, .old 7002),(7003, .old 7004)] (pb p s ex y.1 y.2) 400 rfl (aa) (aa) (H8 p s ex y k (bu y.1 k) rfl hlt (by omega) hr (fun x he ha=>⟨(hr.next he ha).wide,(hr.next he ha).plain⟩)) ?_
   rintro u M' (⟨ha,rfl,rfl⟩|⟨ho,rfl,z,rfl⟩)
   ·obtain⟨k1,k2⟩:=FY S h1 h2 hlt rfl ha
    have k3:∃m,(my p ex (bu y.1 k).c k (d9 p s (bu y.1 k).c p.rules.length) y).1=y0.1++m:=by
     obtain⟨m,e⟩:=hp
     obtain⟨m2,e2⟩:=Bu p ex (bu y.1 k).c k (d9 p s (bu y.1 k).c p.rules.length) y
     exact⟨m++m2,by rw[e2,e,List.append_assoc]⟩
    generalize my p ex (bu y.1 k).c k (d9 p s (bu y.1 k).c p.rules.length) y=y2 at k1 k2 k3⊢
    refine⟨NN,NO p s ex y2.1 y2.2, .int .i64 0,rfl,(aa),rfl,?_⟩
    conv=>whnf
    refine fI ?_
    conv=>whnf
    repeat' ((first|refine nI ?_|refine aI ?_|refine tI ?_|refine fI ?_|fail);conv=>whnf)
    refine⟨(k+1,y2),?_,⟨k1,k2,k3⟩,by dsimp only;omega⟩
    dsimp only
    exact aM.by_ [(7001, .old 7001),(7002, .old 7002),(7003, .old 7003),(7004, .old 7005)] _ 400 rfl (aa) (aa)
   ·refine⟨NN,NO p s ex z.1 z.2, .int .i64 4,rfl,(aa),rfl,?_⟩
    conv=>whnf
    refine tI ?_
    conv=>whnf
    refine .inr ⟨h2.over S (j:=k) (by rw[ik];exact hlt) (by rw[vY];exact ho),rfl,z,?_⟩
    exact .inr (aa)
 ·refine ah ?_ ?_<;>(intro g2;conv=>whnf)
  ·exact .inr ⟨h2.many S (by rw[ik];omega),rfl,y, .inl (aa)⟩
  ·obtain rfl:k=y.1.length:=by omega
   exact .inl ⟨y,h1,h2,by omega,hp,rfl,aa⟩
end Go.Proofs.YtokjgegkhlkopaaGreatDoor
