import Derived.Test.YtblcpnmnibcbbaaGreatDoorLaA
import Derived.Test.YtblcpnmnibcbbaaGreatDoorMG
set_option linter.unusedVariables false
set_option linter.unusedSimpArgs false
namespace Go.Proofs.YtblcpnmnibcbbaaGreatDoor
set_option maxRecDepth 100000
set_option maxHeartbeats 16000000
def Ll:AV->(AV->Prop)->Prop
 |.top,k=>k .top
 |.int a b,k=>k (.int a b)
 |.bool a,k=>k (.bool a)
 |.str a,k=>k (.str a)
 |.nilsl,k=>k .nilsl
 |.val a,k=>k (.val a)
 |.sl a b c,k=>k (.sl a b c)
 |.slc a b c,k=>k (.slc a b c)
 |.fn a b,k=>k (.fn a b)
 |.ptr a b,k=>k (.ptr a b)
 |.row a b c,k=>k (.row a b c)
 |.rel a b c,k=>k (.rel a b c)
 |.part a b c d,k=>k (.part a b c d)
 |.mp a,k=>k (.mp a)
 |.agg cs,k=>k (.agg cs)
 |.tup cs,k=>k (.tup cs)
 |.pd cs,k=>k (.pd cs)
theorem Lk (u:AV) (k:AV->Prop):Ll u k=k u:=by cases u<;>rfl
def Lh:List AV->(List AV->Prop)->Prop
 |[],k=>k []
 |u::us,k=>Ll u fun u'=>Lh us fun us'=>k (u'::us')
theorem Lg:∀(us:List AV) (k:List AV->Prop),Lh us k=k us
 |[],_=>rfl
 |u::us,k=>by rw[Lh,Lk,Lg us]
def Li:AV->(AV->Prop)->Prop
 |.top,k=>k .top
 |.int a b,k=>k (.int a b)
 |.bool a,k=>k (.bool a)
 |.str a,k=>k (.str a)
 |.nilsl,k=>k .nilsl
 |.val a,k=>k (.val a)
 |.sl a b c,k=>k (.sl a b c)
 |.slc a b c,k=>k (.slc a b c)
 |.fn a b,k=>k (.fn a b)
 |.ptr a b,k=>k (.ptr a b)
 |.row a b c,k=>k (.row a b c)
 |.rel a b c,k=>k (.rel a b c)
 |.part a b c d,k=>k (.part a b c d)
 |.mp a,k=>k (.mp a)
 |.agg cs,k=>Lh cs fun cs'=>k (.agg cs')
 |.tup cs,k=>k (.tup cs)
 |.pd cs,k=>Lh cs fun cs'=>k (.pd cs')
theorem Lj (u:AV) (k:AV->Prop):Li u k=k u:=by
 cases u<;>first|rfl|(simp only[Li,Lg])
def Lf:List AV->(List AV->Prop)->Prop
 |[],k=>k []
 |u::us,k=>Li u fun u'=>Lf us fun us'=>k (u'::us')
theorem Le:∀(us:List AV) (k:List AV->Prop),Lf us k=k us
 |[],_=>rfl
 |u::us,k=>by rw[Lf,Lj,Le us]
section
variable {P:Program} {tt:TT} {rd:Option Nat} {C:jW} {D:List Nat} {M:ah}
theorem nE.seqW (hC:∀S S' F ρ0,S.le S'->C S F ρ0->C S' F ρ0) {a b:Code} {fr:List AV} {Q:cq} (hx:nE P rd C D a fr M fun e fr' M'=>match e with
  |.normal=>nE P rd C D b fr' M' Q
  |.exit i=>Q (.exit i) fr' M'
  |.ret=>Q .ret fr' M'):nE P rd C D (.seq a b) fr M Q:=by
 refine⟨fun N S F ρ0 ρ act w hN hc h0 h1 hM hF=>?_⟩
 refine wpIn_seq (wpIn_mono (hx.out N S F ρ0 ρ act w hN hc h0 h1 hM hF) ?_)
 rintro e a' w' ⟨ex,he,f,M',S',ρ',k,k1,k2,k3,k4,k5⟩
 cases e with
 |normal=>
  cases he
  refine wpIn_mono (nE.out k N S' F ρ0 ρ' a' w' (Nat.le_trans hN k5.size) (hC _ _ _ _ k1 hc) h0 k2 k3 k4) ?_
  rintro e2 a2 w2 ⟨ex2,he2,ha⟩
  exact⟨ex2,he2,ha.trans k1 (aw.le_refl _) k5⟩
 |exit i=>cases he;exact⟨_,rfl,f,M',S',ρ',k,k1,k2,k3,k4,k5⟩
 |ret=>cases he;exact⟨_,rfl,f,M',S',ρ',k,k1,k2,k3,k4,k5⟩
 |goto l=>cases he
 |panic l=>cases he
 |outgrown=>cases he
theorem nE.seqC (hT:aW P tt=true) (hm:P.follows .mixedOrders=true) {a b:Code} {fr:List AV} {Q:cq} (h:gX P tt rd zC D a fr M fun e fr' M'=>match e with
  |.normal=>nE P rd zC D b fr' M' Q
  |.exit i=>Q (.exit i) fr' M'
  |.ret=>Q .ret fr' M'):nE P rd zC D (.seq a b) fr M Q:=nE.seqW i7 (mI hT hm i7 a fr M _ h)
theorem nE.ofY (hT:aW P tt=true) (hm:P.follows .mixedOrders=true) {a:Code} {fr:List AV} {Q:cq} (h:gX P tt rd zC D a fr M Q):nE P rd zC D a fr M Q:=mI hT hm i7 a fr M Q h
theorem nE.block {id:Nat} {c:Code} {fr:List AV} {Q:cq} (hx:nE P rd C D c fr M fun e fr' M'=>match e with
  |.normal=>Q .normal fr' M'
  |.exit i=>match Nat.beq i id with
   |true=>Q .normal fr' M'
   |false=>Q (.exit i) fr' M'
  |.ret=>Q .ret fr' M'):nE P rd C D (.block id c) fr M Q:=by
 refine⟨fun N S F ρ0 ρ act w hN hc h0 h1 hM hF=>?_⟩
 refine wpIn_block (wpIn_mono (hx.out N S F ρ0 ρ act w hN hc h0 h1 hM hF) ?_)
 rintro e a' w' ⟨ex,he,f,M',S',ρ',k,k1,k2,k3,k4,k5⟩
 cases e with
 |normal=>cases he;exact⟨_,rfl,f,M',S',ρ',k,k1,k2,k3,k4,k5⟩
 |exit i=>
  cases he
  simp only[Exit.inBlock]
  simp only at k
  split at k
  ·rename_i hb
   rw[if_pos (Nat.eq_of_beq_eq_true hb)]
   exact⟨_,rfl,f,M',S',ρ',k,k1,k2,k3,k4,k5⟩
  ·rename_i hb
   rw[if_neg (fun e=>by subst e;simp at hb)]
   exact⟨_,rfl,f,M',S',ρ',k,k1,k2,k3,k4,k5⟩
 |ret=>cases he;exact⟨_,rfl,f,M',S',ρ',k,k1,k2,k3,k4,k5⟩
 |goto l=>cases he
 |panic l=>cases he
 |outgrown=>cases he
theorem nE.condT {c:Operand} {x y:Code} {fr:List AV} {Q:cq} (hc:cm fr c= .bool true) (h:nE P rd C D x fr M Q):nE P rd C D (.cond c x y) fr M Q:=by
 refine⟨fun N S F ρ0 ρ a w hN hcc h0 h1 hM hF=>?_⟩
 have hcv:=hF.f.eval c
 have he:({a with defers:=[]}:Act).eval c=a.eval c:=by cases c<;>rfl
 rw[he,hc] at hcv
 exact wpIn_cond_true hcv.bool_inv (h.out N S F ρ0 ρ a w hN hcc h0 h1 hM hF)
theorem nE.condF {c:Operand} {x y:Code} {fr:List AV} {Q:cq} (hc:cm fr c= .bool false) (h:nE P rd C D y fr M Q):nE P rd C D (.cond c x y) fr M Q:=by
 refine⟨fun N S F ρ0 ρ a w hN hcc h0 h1 hM hF=>?_⟩
 have hcv:=hF.f.eval c
 have he:({a with defers:=[]}:Act).eval c=a.eval c:=by cases c<;>rfl
 rw[he,hc] at hcv
 exact wpIn_cond_false hcv.bool_inv (h.out N S F ρ0 ρ a w hN hcc h0 h1 hM hF)
theorem nE.lend {c:Code} {fr:List AV} {Q:cq} (ls:List Nat) (n:Nat) (h:Lf (fr.map (borD (zY M ls) n)) fun fr'=>nE P rd zC D c fr' (J0 M ls n) Q):nE P rd zC D c fr M Q:=by
 rw[Le] at h
 refine⟨fun N S F ρ0 ρ a w hN hc h0 h1 hM hF=>?_⟩
 have hle:=GN hM ls
 obtain⟨f1,Ds,f2,f3,f4⟩:=hF
 refine wpIn_mono (h.out N _ F ρ0 ρ a w hN trivial h0 h1 (hM.lendL ls n) ⟨ba.map_of f1 (JZ hM ls n),Ds,f2,f3,fun k hk=>⟨(f4 k hk).1,hle _ _ (f4 k hk).2⟩⟩) ?_
 rintro e a' w' ⟨x,hx,ha⟩
 exact⟨x,hx,ha.trans hle (aw.le_refl _) (bX.refl _)⟩
theorem aR.lend {c:Code} {fr:List AV} {Q:cq} (ls:List Nat) (n:Nat) (h:Lf (fr.map (borD (zY M ls) n)) fun fr'=>aR P D c fr' (J0 M ls n) Q):aR P D c fr M Q:=by
 rw[Le] at h
 exact aR.sub (bE.lendD ls n ⟨fun S F ρ0 ρ a w _ h1 hM hF=>⟨S,ρ,ae.le_refl _,h1,hM,hF⟩⟩) h
theorem YS.roundW (hT:aW P tt=true) (hm:P.follows .mixedOrders=true) {lb l:Nat} {r:Loop} {fr:List AV} {t:Tmp} {u:AV} {K:AV->ah->Prop} (hr1:r.state= .ready) (hr2:r.pending=none) (hr3:r.params=#[t]) {asg bdy:Code} (hr4:r.assign=asg) (hr5:r.body=bdy)
  (hl:M lb=some (.obj (.loop r)))
  (h:uc fr t u fun fr1=>gX P tt (some l) zC D asg fr1 M fun e fr2 M2=>match e with
   |.normal=>M2 lb=some (.obj (.loop r))/\nE P (some l) zC D bdy fr2 (M2.set lb (.obj (.loop (xV r)))) fun e _ M3=>M3 lb=some (.obj (.loop (xV r)))/\match e with
    |.normal=>∃L,bE D [] (M3.set lb (.obj (.loop r))) [] (ah.ofL L)/\K (.bool true) (ah.ofL L)
    |_=>False
   |_=>False):YS P (Es lb l r fr) D (.func (.yield l) #[] #[]) [u] M K:=by
 subst hr4;subst hr5
 rw[ov] at h
 refine⟨fun S F ρ0 ρ vs w ⟨⟨b,hb,hbl⟩,hfr⟩ h0 h1 hM hv=>?_⟩
 subst hbl
 obtain⟨v,vs',rfl,hv1,hv2⟩:=hv.cons_inv
 have hvs':vs'=[]:=by have:=hv2.1;simpa using this
 subst hvs'
 have hw:=hM.objAt hl (h1 _ _ hb)
 refine⟨b.blk,r.fn,_,r.assign,r.body,rfl,run_yield hw (by rw[hr3];rfl),?_⟩
 refine roundIn_of_wpIn (F:=Fence.wide) trivial ?_
 have htm:(r.params.zip [v].toArray).foldl (fun tmps (t,a)=>tmps.setIfInBounds t a) r.tmps=r.tmps.setIfInBounds t v:=by rw[hr3];simp
 rw[htm]
 have hG:jV 0 S ρ {tmps:=r.tmps.setIfInBounds t v,defers:=[]} (fr.set t u):=by
  refine⟨?_,gw.nil _ _⟩
  have:=(hfr.mono (ae.le_refl S) h1).set_ t (RV.p (ρ:=ρ) hv1)
  simpa using this
 refine wpIn_mono ((mI (rd:=some b.blk) hT hm i7 r.assign _ _ _ h).out 0 S F ρ0 ρ _ w (Nat.zero_le _) trivial h0 h1 hM hG) ?_
 rintro e a1 w1 ⟨x,hx,fr2,M2,S2,ρ2,hk,k1,k2,k3,k4,k5⟩
 cases x with
 |exit i=>exact hk.elim
 |ret=>exact hk.elim
 |normal=>
  have he:e= .normal:=by cases e<;>first|rfl|cases hx
  subst he
  obtain⟨hl2,hk⟩:=hk
  have hw1:=k3.objAt hl2 (k2 _ _ hb)
  refine⟨_,run_beginRound hw1 hr1,?_⟩
  have hM2:=k3.putO hl2 (k2 _ _ hb) (.loop (xV r))
  refine wpIn_mono (hk.out 0 S2 F ρ0 ρ2 _ _ (Nat.zero_le _) trivial h0 k2 hM2 k4) ?_
  rintro e a3 w3 ⟨x,hx,fr3,M3,S3,ρ3,⟨hl3,hk3⟩,j1,j2,j3,j4,j5⟩
  have hw3:=j3.objAt hl3 (j2 _ _ hb)
  cases x with
  |exit i=>exact hk3.elim
  |ret=>exact hk3.elim
  |normal=>
   have he:e= .normal:=by cases e<;>first|rfl|cases hx
   subst he
   obtain⟨L,hsub,hK⟩:=hk3
   have hrec:({(xV r) with state:=if(none:Option Code).isNone then .ready else .done,pending:=none}:Loop)=r:=by
    obtain⟨a,b,c,d,e,f,g,h⟩:=r
    simp only at hr1 hr2
    subst hr1;subst hr2
    rfl
   have hend:=run_endRound (P:=P) none hw3
   rw[hrec] at hend
   have hM4:=j3.putO hl3 (j2 _ _ hb) (.loop r)
   rw[ik] at hsub
   obtain⟨S4,ρ4,q1,q2,q3,_⟩:=hsub S3 F ρ0 ρ3 {tmps:=#[],defers:=[]} _ h0 j2 hM4 ⟨ba.nil _ _,rfl⟩
   exact⟨_,_,hend, .bool true, .bool true,_,S4,ρ4,rfl,hK,ae.le_trans k1 (ae.le_trans j1 q1),q2,q3, .bool _,((k5.trans (oL hw1 rfl rfl)).trans j5).trans (oL hw3 rfl rfl)⟩
end
theorem KV (p:aq) (ex:Bool) (l:List dy) (f:ByteArray->Option Int) (o:dy):∃m,de p ex l f o=l++m:=by
 unfold de
 split
 ·exact⟨[],(List.append_nil _).symm⟩
 ·exact⟨_,rfl⟩
theorem KU (p:aq) (ex:Bool) (c:ap) (i:Int):∀(xs:List be) (y:mZ),∃m,(lN p ex c i xs y).1=y.1++m
 |[],y=>⟨[],(List.append_nil _).symm⟩
 |x::xs,y=>by
  obtain⟨m,h⟩:=KU p ex c i xs (GZ p ex c i y x)
  obtain⟨m2,h2⟩:=KV p ex y.1 y.2 ⟨cp c (aO p x) x,i,x⟩
  have h2:(GZ p ex c i y x).1=y.1++m2:=h2
  rw[h2,List.append_assoc] at h
  exact⟨m2++m,h⟩
theorem KX (p:aq) (q:bO) (s:aB) (ex:Bool) (S:jI p q s) (y0:mZ) (h0:oh p q s ex y0) (hs0:sb p q s ex (tE y0.1) 0):
  ar Tryz.prog 102 [.ptr 7001 0] (ah.ofL (qD p s ex y0.1 y0.2)) (fun u M=>
   (∃y:mZ,oh p q s ex y/\sb p q s ex (tE y.1) y.1.length/\y.1.length<=4000/\(∃m,y.1=y0.1++m)/\u= .int .i64 0/\M=ah.ofL (yd p s ex y.1 y.2))\/
   ((¬∃L,tp p q s ex L/\L.length<=4000)/\u= .int .i64 4/\∃y:mZ,M=ah.ofL (yd p s ex y.1 y.2))):=by
 refine ar.renorm 400 (R:=fun u M=>(∃y:mZ,oh p q s ex y/\sb p q s ex (tE y.1) y.1.length/\y.1.length<=4000/\(∃m,y.1=y0.1++m)/\u= .int .i64 0/\dS EM 400 M (yd p s ex y.1 y.2))\/
   ((¬∃L,tp p q s ex L/\L.length<=4000)/\u= .int .i64 4/\∃y:mZ,dS EM 400 M (yd p s ex y.1 y.2)\/dS Ju 400 M (yd p s ex y.1 y.2))) ?_ ?_
 case refine_2=>
  rintro u M (⟨y,h1,h2,h3,hp,rfl,h4⟩|⟨h1,rfl,y,h4|h4⟩)
  ·exact⟨EM,_, .int .i64 0,rfl,h4,rfl, .inl ⟨y,h1,h2,h3,hp,rfl,rfl⟩⟩
  ·exact⟨EM,_, .int .i64 4,rfl,h4,rfl, .inr ⟨h1,rfl,y,rfl⟩⟩
  ·exact⟨Ju,_, .int .i64 4,rfl,h4,rfl, .inr ⟨h1,rfl,y,rfl⟩⟩
 refine ar.intro ab ac (qD p s ex y0.1 y0.2) Tryz.func102 rfl (by decide) ?_
 conv=>whnf
 refine aR.loopF ab ac (fun z:Nat×mZ=>oh p q s ex z.2/\sb p q s ex (tE z.2.1) z.1/\∃m,z.2.1=y0.1++m) (fun z=>[(3, .int .i64 (z.1:Int))]) (fun z=>yd p s ex z.2.1 z.2.2) (fun z=>4001-z.1) (0,y0) ⟨h0,hs0,[],(List.append_nil _).symm⟩ ?_;conv=>whnf
 refine⟨bE.by_ [(7001, .old 7001),(7002, .old 7002),(7003, .old 7003),(7004, .old 7003)] _ 400 rfl (ai) (ai),?_⟩
 rintro⟨k,y⟩ ⟨h1,h2,hp⟩
 dsimp only at h1 h2 hp⊢
 have hle:=h2.le
 rw[mT] at hle
 conv=>whnf
 refine ag ?_ ?_<;>(intro g1;conv=>whnf)
 ·have hlt:k<y.1.length:=by omega
  refine ag ?_ ?_<;>(intro g2;conv=>whnf)
  ·exact .inr ⟨h2.many S (by rw[mT];omega),rfl,y, .inl (ai)⟩
  ·have hr:=h1.og.rdy S hlt
   refine ar.call [(7001, .old 7001),(7002, .old 7002),(7003, .old 7004)] (qD p s ex y.1 y.2) 400 rfl (ai) (ai) (EN p s ex y k (ce y.1 k) rfl hlt (by omega) hr (fun x he ha=>⟨(hr.next he ha).wide,(hr.next he ha).plain⟩)) ?_
   rintro u M' (⟨ha,rfl,rfl⟩|⟨ho,rfl,z,rfl⟩)
   ·obtain⟨k1,k2⟩:=C3 S h1 h2 hlt rfl ha
    have k3:∃m,(lN p ex (ce y.1 k).c k (fA p s (ce y.1 k).c p.rules.length) y).1=y0.1++m:=by
     obtain⟨m,e⟩:=hp
     obtain⟨m2,e2⟩:=KU p ex (ce y.1 k).c k (fA p s (ce y.1 k).c p.rules.length) y
     exact⟨m++m2,by rw[e2,e,List.append_assoc]⟩
    generalize lN p ex (ce y.1 k).c k (fA p s (ce y.1 k).c p.rules.length) y=y2 at k1 k2 k3⊢
    refine⟨Jv,Jw p s ex y2.1 y2.2, .int .i64 0,rfl,(ai),rfl,?_⟩
    conv=>whnf
    refine fI ?_
    conv=>whnf
    repeat' ((first|refine nI ?_|refine aI ?_|refine tI ?_|refine fI ?_|fail);conv=>whnf)
    refine⟨(k+1,y2),?_,⟨k1,k2,k3⟩,by dsimp only;omega⟩
    dsimp only
    exact bE.by_ [(7001, .old 7001),(7002, .old 7002),(7003, .old 7003),(7004, .old 7005)] _ 400 rfl (ai) (ai)
   ·refine⟨Jv,Jw p s ex z.1 z.2, .int .i64 4,rfl,(ai),rfl,?_⟩
    conv=>whnf
    refine tI ?_
    conv=>whnf
    refine .inr ⟨h2.over S (j:=k) (by rw[mT];exact hlt) (by rw[yi];exact ho),rfl,z,?_⟩
    exact .inr (ai)
 ·refine ag ?_ ?_<;>(intro g2;conv=>whnf)
  ·exact .inr ⟨h2.many S (by rw[mT];omega),rfl,y, .inl (ai)⟩
  ·obtain rfl:k=y.1.length:=by omega
   exact .inl ⟨y,h1,h2,by omega,hp,rfl,ai⟩
end Go.Proofs.YtblcpnmnibcbbaaGreatDoor
