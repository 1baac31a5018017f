import Derived.Test.YtekmminpfhacpaaGreatDoorY2
set_option linter.unusedVariables false
set_option linter.unusedSimpArgs false
namespace Go.Proofs.YtekmminpfhacpaaGreatDoor
set_option maxRecDepth 100000
set_option maxHeartbeats 16000000
def B6 (p:av) (sch:List Int) (j:Nat):List Rw:=
 (if 0<j then[(l0 p ((ay p.rules).getD (sch.getD (j-1) 0).toNat aM) j,-((ay p.rules).getD (sch.getD (j-1) 0).toNat aM).bound.c)] else[])++((List.range p.states.length).map fun x:Nat=>((bO p.rules 3 5 x j,0):Rw))++(if jZ p then(List.range p.states.length).map fun x:Nat=>((bO p.rules 4 6 x j,0):Rw) else[])
theorem It (p:av) (sch:List Int) (j:Nat):(B6 p sch j).length<=1+2*p.states.length:=by
 unfold B6
 rw[List.length_append,List.length_append]
 split<;>split<;>simp<;>omega
def Fb (p:av) (sch:List Int) (vars:List Vb) (n:Nat):List aV:=((List.range n).flatMap (B6 p sch)).map (aQ vars)
theorem Ah (p:av) (sch:List Int) (vars:List Vb) (n:Nat):Fb p sch vars (n+1)=Fb p sch vars n++(B6 p sch n).map (aQ vars):=by
 unfold Fb
 rw[List.range_succ,List.flatMap_append,List.map_append]
 simp
theorem x5 {p:av} (h:p.states.length<=6) (sch:List Int) (vars:List Vb):∀n,(Fb p sch vars n).length<=13*n
 |0=>by simp[Fb]
 |n+1=>by
  rw[Ah,List.length_append,List.length_map]
  have a:=x5 h sch vars n
  have b:=It p sch n
  omega
theorem Ph (p:av) (q:aP) (sch:List Int) (rows:List aV) (hp:lO p) (hq:bD p q=0) (hs:dS (ay p.rules).length sch) (hr:rows.length<=1000):
  aj Tryz.prog 53 [.ptr 200 0, .sl 0 al sch] (ag.ofL (cU p (az p q sch) rows)) (fun u M=>u= .tup []/\M=ag.ofL (yc p (az p q sch) (rows++Fb p sch (az p q sch) (sch.length+1)))):=by
 have hV:=(aW hq).vld
 have wl:=(aN hV).len
 have wT:=(aN hV).thr
 have hsl:=cu hs
 have hv:=iE hq hs
 have hru:=uA (sch:=sch) hq
 have hgua:=fun rows (j:Nat) (hj:0<j/\j<=sch.length)=>Pd p q sch rows hq hs ((ay p.rules).getD (sch.getD ((j:Int)-1).toNat 0).toNat aM)
  ((xd hV (bu (l:=ay p.rules) aM (by have:=hs ((j:Int)-1).toNat (by omega);omega))).2.1) ((xd hV (bu (l:=ay p.rules) aM (by have:=hs ((j:Int)-1).toNat (by omega);omega))).2.2) j
 have haft:=fun rows j (x:Nat)=>Iq p (az p q sch) rows (by omega) (by omega) (fun x hx hk=>hru x hx (.inl hk)) j (x:Int)
 have hafq:=fun rows j (x:Nat)=>Pc p (az p q sch) rows (by omega) (by omega) (fun x hx hk=>hru x hx (.inr hk)) j (x:Int)
 generalize az p q sch=vars at*
 obtain⟨R,hR⟩:∃R:Nat->List aV,R=fun j=>rows++Fb p sch vars j:=⟨_,rfl⟩
 obtain⟨A,hA⟩:∃A:Nat->Nat->List aV,A=fun j x=>R j++(if 0<j then[aQ vars (l0 p ((ay p.rules).getD (sch.getD (j-1) 0).toNat aM) j,-((ay p.rules).getD (sch.getD (j-1) 0).toNat aM).bound.c)] else[])++(List.range x).map fun x:Nat=>aQ vars (bO p.rules 3 5 x j,0):=⟨_,rfl⟩
 obtain⟨B,hB⟩:∃B:Nat->Nat->List aV,B=fun j x=>A j p.states.length++(List.range x).map fun x:Nat=>aQ vars (bO p.rules 4 6 x j,0):=⟨_,rfl⟩
 have hR0:R 0=rows:=by rw[hR];simp[Fb]
 have hA0:∀j:Nat,0<j->A j 0=R j++[aQ vars (l0 p ((ay p.rules).getD (sch.getD ((j:Int)-1).toNat 0).toNat aM) j,-((ay p.rules).getD (sch.getD ((j:Int)-1).toNat 0).toNat aM).bound.c)]:=fun j h=>by
  rw[hA,show((j:Int)-1).toNat=j-1 by omega];simp only[if_pos h,List.range_zero,List.map_nil,List.append_nil]
 have hAz:∀j:Nat,¬0<j->A j 0=R j:=fun j h=>by
  rw[hA];simp only[if_neg h,List.range_zero,List.map_nil,List.append_nil]
 have hAn:∀j x:Nat,A j (x+1)=A j x++[aQ vars (bO p.rules 3 5 x j,0)]:=fun j x=>by
  rw[hA];simp only[List.range_succ,List.map_append,List.map_cons,List.map_nil,List.append_assoc]
 have hB0:∀j,B j 0=A j p.states.length:=fun j=>by rw[hB];simp
 have hBn:∀j x:Nat,B j (x+1)=B j x++[aQ vars (bO p.rules 4 6 x j,0)]:=fun j x=>by
  rw[hB];simp only[List.range_succ,List.map_append,List.map_cons,List.map_nil,List.append_assoc]
 have hRl:∀j,j<=sch.length+1->(R j).length<=2000:=fun j hj=>by
  have:=x5 (p:=p) (by omega) sch vars j
  rw[hR];simp only[List.length_append];omega
 have hAl:∀j x,j<=sch.length+1->x<=p.states.length->(A j x).length<=3000:=fun j x hj hx=>by
  have a:=hRl j hj
  have:(if 0<j then[aQ vars (l0 p ((ay p.rules).getD (sch.getD (j-1) 0).toNat aM) j,-((ay p.rules).getD (sch.getD (j-1) 0).toNat aM).bound.c)] else[]).length<=1:=by split<;>simp
  rw[hA];simp only[List.length_append,List.length_map,List.length_range];omega
 have hBl:∀j x,j<=sch.length+1->x<=p.states.length->(B j x).length<=4000:=fun j x hj hx=>by
  have a:=hAl j p.states.length hj (Nat.le_refl _)
  rw[hB];simp only[List.length_append,List.length_map,List.length_range];omega
 have hRn:∀j,R (j+1)=if jZ p then B j p.states.length else B j 0:=fun j=>by
  by_cases h1:0<j<;>by_cases h2:jZ p<;>simp[hR,hA,hB,Ah,B6,h1,h2,List.map_map,Function.comp_def]
 rw[show rows++Fb p sch vars (sch.length+1)=R (sch.length+1) by rw[hR]]
 clear hR hA hB
 refine aj.renorm 400 (R:=fun u M=>u= .tup []/\bG qW 400 M (yc p vars (R (sch.length+1)))) ?_ ?_
 case refine_2=>
  rintro u M ⟨rfl,hM⟩
  exact⟨qW,_, .tup [],rfl,hM,trivial,rfl,rfl⟩
 refine aj.intro ab ac (cU p vars rows) Tryz.func53 rfl (by decide) ?_
 conv=>whnf
 (refine oP (im p hp hV) ?_;conv=>whnf)
 refine aJ.loopF ab ac (fun j:Nat=>j<=sch.length+1) (fun j=>[(6, .int .i64 (j:Int))]) (fun j=>yc p vars (R j)) (fun j=>sch.length+1-j) 0 (Nat.zero_le _) ?_;conv=>whnf
 refine⟨by rw[hR0];exact aH.by_ KE _ 400 rfl (aa) (aa),?_⟩
 rintro j hj
 conv=>whnf
 refine ae ?_ ?_<;>(intro h1;conv=>whnf)
 ·have hjl:j<=sch.length:=by omega
  have hRl1:=hRl j hj
  apply once (A:=aJ Tryz.prog _ (.loop _) ([.ptr 200 0, .sl 0 al sch, .top, .top, .sl aM cg (ay p.rules), .int .i64 0, .int .i64 (j:Int), .int .i64 0, .top, .top, .ptr 200 0, .ptr 200 0, .ptr 200 (0+0), .agg (cV p), .top, .sl aM cg (ay p.rules), .int .i64 0]++List.replicate 81 .top) (ag.ofL (yc p vars (A j 0))) _)
  case k=>
   intro hs0
   refine ae ?_ ?_<;>(intro h2;conv=>whnf)
   rotate_left
   ·exact aJ.sub (by rw[hAz j (by omega)];exact aH.by_ qW _ 400 rfl (aa) (aa)) hs0
   ·have hA1:=hA0 j (by omega)
    have hb1:=hs ((j:Int)-1).toNat (by omega)
    have hc:=hgua (R j) j ⟨by omega,hjl⟩
    apply c5
    case k=>
     intro o1 o2 o3 o4 o5 o6
     refine fC [0,1,2,3,5,6,7,8,11,13,14,18,19] (by decide+kernel) ?_
     conv=>whnf
     repeat' first
      |exact True.intro
      |(refine And.intro ?_ ?_<;>conv=>whnf)
      |(refine bU ?_;conv=>whnf)
      |(refine bg (by clear o1 o2 o3 o4 o5 o6;omega) ?_;conv=>whnf)
      |(refine nK trivial (by clear o1 o2 o3 o4 o5 o6;omega) ?_;conv=>whnf)
      |(refine aj.call qX (cU p vars (R j)) 400 rfl (aa) (aa) hc ?_;rintro u M' ⟨rfl,rfl⟩;refine⟨qY,Ar 202 p vars (R j), .agg [.sl 0 al (vars.map (l0 p ((ay p.rules).getD (sch.getD ((j:Int)-1).toNat 0).toNat aM) j)), .int .i64 (-((ay p.rules).getD (sch.getD ((j:Int)-1).toNat 0).toNat aM).bound.c)],rfl,(aa),(aa),?_⟩;conv=>whnf)
      |(refine bp ar aw [aQ vars (l0 p ((ay p.rules).getD (sch.getD ((j:Int)-1).toNat 0).toNat aM) j,-((ay p.rules).getD (sch.getD ((j:Int)-1).toNat 0).toNat aM).bound.c)] rfl ?_;conv=>whnf)
      |(refine bq [aQ vars (l0 p ((ay p.rules).getD (sch.getD ((j:Int)-1).toNat 0).toNat aM) j,-((ay p.rules).getD (sch.getD ((j:Int)-1).toNat 0).toNat aM).bound.c)] rfl (by clear o1 o2 o3 o4 o5 o6;simp only[List.length_cons,List.length_nil];omega) ?_;conv=>whnf)
      |with_reducible assumption
      |fail
    all_goals try first
     |exact True.intro
     |exact True
    all_goals
     exact aJ.sub (by rw[hA1];exact aH.by_ [(200, .old 200),(201, .old 201),(202, .old 42)] _ 400 rfl (aa) (aa)) hs0
  case h=>
   refine aJ.loopF ab ac (fun x:Nat=>x<=p.states.length) (fun x=>[(7, .int .i64 (x:Int))]) (fun x=>yc p vars (A j x)) (fun x=>p.states.length-x) 0 (Nat.zero_le _) ?_;conv=>whnf
   refine⟨aH.by_ qW _ 400 rfl (aa) (aa),?_⟩
   rintro x hx
   conv=>whnf
   refine ae ?_ ?_<;>(intro h3;conv=>whnf)
   ·have hl1:=hAl j x hj hx
    have hA1:=hAn j x
    have hc:=haft (A j x) j x
    generalize bO p.rules 3 5 x j=AF at*
    apply c5
    case k=>
     intro o1 o2 o3 o4 o5 o6
     refine fC [0,1,2,3,5,6,7,11,12] (by decide+kernel) ?_
     conv=>whnf
     repeat' first
      |exact True.intro
      |(refine And.intro ?_ ?_<;>conv=>whnf)
      |(refine bU ?_;conv=>whnf)
      |(refine bg (by clear o1 o2 o3 o4 o5 o6;omega) ?_;conv=>whnf)
      |(refine nK trivial (by clear o1 o2 o3 o4 o5 o6;omega) ?_;conv=>whnf)
      |(refine aj.call qX (cU p vars (A j x)) 400 rfl (aa) (aa) hc ?_;rintro u M' ⟨rfl,rfl⟩;refine⟨qY,Ar 202 p vars (A j x), .agg [.sl 0 al (vars.map AF), .int .i64 0],rfl,(aa),(aa),?_⟩;conv=>whnf)
      |(refine bp ar aw [aQ vars (AF,0)] rfl ?_;conv=>whnf)
      |(refine bq [aQ vars (AF,0)] rfl (by clear o1 o2 o3 o4 o5 o6;simp only[List.length_cons,List.length_nil];omega) ?_;conv=>whnf)
      |with_reducible assumption
      |fail
    all_goals try first
     |exact True.intro
     |exact True
    all_goals
     repeat' first|refine dt ?_;conv=>whnf|fail
     refine⟨x+1,?_,by omega,by dsimp only;omega⟩
     dsimp only
     rw[hA1]
     exact aH.by_ [(200, .old 200),(201, .old 201),(202, .old 65)] _ 400 rfl (aa) (aa)
   ·obtain rfl:x=p.states.length:=by omega
    refine aJ.loopF ab ac (fun x:Nat=>x<=p.states.length/\(¬jZ p->x=0)) (fun x=>[(8, .int .i64 (x:Int))]) (fun x=>yc p vars (B j x)) (fun x=>p.states.length-x) 0 ⟨Nat.zero_le _,fun _=>rfl⟩ ?_;conv=>whnf
    refine⟨by rw[hB0];exact aH.by_ qW _ 400 rfl (aa) (aa),?_⟩
    rintro x ⟨hx,hx0⟩
    conv=>whnf
    refine ae ?_ ?_<;>(intro h3;conv=>whnf)
    ·refine dC (fu p) (fun _=>?_) (fun _=>?_)<;>(conv=>whnf)
     ·rename_i hw
      have hl1:=hBl j x hj hx
      have hB1:=hBn j x
      have hc:=hafq (B j x) j x
      generalize bO p.rules 4 6 x j=AF at*
      apply c5
      case k=>
       intro o1 o2 o3 o4 o5 o6
       refine fC [0,1,2,3,5,6,7,11,12] (by decide+kernel) ?_
       conv=>whnf
       repeat' first
        |exact True.intro
        |(refine And.intro ?_ ?_<;>conv=>whnf)
        |(refine bU ?_;conv=>whnf)
        |(refine bg (by clear o1 o2 o3 o4 o5 o6;omega) ?_;conv=>whnf)
        |(refine nK trivial (by clear o1 o2 o3 o4 o5 o6;omega) ?_;conv=>whnf)
        |(refine aj.call qX (cU p vars (B j x)) 400 rfl (aa) (aa) hc ?_;rintro u M' ⟨rfl,rfl⟩;refine⟨qY,Ar 202 p vars (B j x), .agg [.sl 0 al (vars.map AF), .int .i64 0],rfl,(aa),(aa),?_⟩;conv=>whnf)
        |(refine bp ar aw [aQ vars (AF,0)] rfl ?_;conv=>whnf)
        |(refine bq [aQ vars (AF,0)] rfl (by clear o1 o2 o3 o4 o5 o6;simp only[List.length_cons,List.length_nil];omega) ?_;conv=>whnf)
        |with_reducible assumption
        |fail
      all_goals try first
       |exact True.intro
       |exact True
      all_goals
       repeat' first|refine dt ?_;conv=>whnf|fail
       refine⟨x+1,?_,⟨by omega,fun h=>absurd hw h⟩,by dsimp only;omega⟩
       dsimp only
       rw[hB1]
       exact aH.by_ [(200, .old 200),(201, .old 201),(202, .old 95)] _ 400 rfl (aa) (aa)
     ·rename_i hw
      have hRn1:=hRn j
      rw[if_neg hw,<-hx0 hw] at hRn1
      repeat' first|refine dt ?_;conv=>whnf|fail
      refine⟨j+1,?_,by omega,by dsimp only;omega⟩
      dsimp only
      rw[hRn1]
      exact aH.by_ qW _ 400 rfl (aa) (aa)
    ·have hRn1:=hRn j
     obtain rfl:x=p.states.length:=by omega
     have hw:jZ p:=Classical.byContradiction fun h=>by have:=hx0 h;omega
     rw[if_pos hw] at hRn1
     repeat' first|refine dt ?_;conv=>whnf|fail
     refine⟨j+1,?_,by omega,by dsimp only;omega⟩
     dsimp only
     rw[hRn1]
     exact aH.by_ qW _ 400 rfl (aa) (aa)
 ·obtain rfl:j=sch.length+1:=by omega
  exact⟨rfl,(aa)⟩
def Ai (p:av) (seg:Nat) (r:cf) (ch:Int):Rw:=
 if ch=0 then(bo zC (-1) (bO p.rules 3 5 r.src seg),0)
 else
  let g:=r.guards.getD (ch-1).toNat aM
  (if p.fault=1 then bo (bo (bH g.bound) (-g.coef) (bJ p.rules 5 g.message (seg+1))) (-g.coef) (bJ p.rules 6 g.message (seg+1)) else bo (bH g.bound) (-g.coef) (bJ p.rules 5 g.message (seg+1)),g.bound.c-1)
def pX (p:av) (q:aP) (seg:Nat) (C:List Int):List Rw:=
 if q.kind=1 then q.bad.map fun c=>(qV p seg c.states,-c.least)
 else(qV p seg (Bk p q),-1)::(List.range C.length).map fun i=>Ai p seg (p.rules.getD i ax) (C.getD i 0)
theorem Pi (p:av) (q:aP) (vars:List Vb) (rows:List aV) (hv:vars.length<=1000) (hrl:p.rules.length<=1000) (hru:KD p vars) (hr:rows.length<=2000) (hk:q.kind=1) (hbl:q.bad.length<=1000)
  (hbad:∀i,i<q.bad.length->(q.bad.getD i b9).states.length<=1000/\0<=(q.bad.getD i b9).least/\(q.bad.getD i b9).least<=1000) (seg:Nat) (C:List Int):
  aj Tryz.prog 54 [.ptr 200 0, .agg (eO q), .int .i64 (seg:Int), .sl 0 al C] (ag.ofL (cU p vars rows)) (fun u M=>u= .tup []/\M=ag.ofL (yc p vars (rows++(pX p q seg C).map (aQ vars)))):=by
 obtain⟨R,hR⟩:∃R:Nat->List aV,R=fun x=>rows++(q.bad.take x).map fun c=>aQ vars (qV p seg c.states,-c.least):=⟨_,rfl⟩
 have hR0:R 0=rows:=by rw[hR];simp
 have hRn:∀x,x<q.bad.length->R (x+1)=R x++[aQ vars (qV p seg (q.bad.getD (x:Int).toNat b9).states,-(q.bad.getD (x:Int).toNat b9).least)]:=fun x hx=>by
  rw[hR,tN]
  dsimp only
  rw[List.take_succ_eq_append_getElem hx,List.map_append,<-List.append_assoc,ap b9 hx]
  rfl
 have hRl:∀x,x<=q.bad.length->(R x).length<=4000:=fun x hx=>by
  rw[hR];simp only[List.length_append,List.length_map,List.length_take];omega
 have hend:rows++(pX p q seg C).map (aQ vars)=R q.bad.length:=by
  rw[hR];dsimp only;rw[List.take_length];unfold pX;rw[if_pos hk,List.map_map];rfl
 rw[hend]
 have hg:=fun x (hx:x<q.bad.length)=>Lk p vars (R x) (by omega) hrl hru seg (q.bad.getD (x:Int).toNat b9).states (by rw[tN];exact(hbad x hx).1) (q.bad.getD (x:Int).toNat b9).least (by rw[tN];exact(hbad x hx).2)
 clear hR hend
 refine aj.renorm 400 (R:=fun u M=>u= .tup []/\bG qW 400 M (yc p vars (R q.bad.length))) ?_ ?_
 case refine_2=>
  rintro u M ⟨rfl,hM⟩
  exact⟨qW,_, .tup [],rfl,hM,trivial,rfl,rfl⟩
 refine aj.intro ab ac (cU p vars rows) Tryz.func54 rfl (by decide) ?_
 simp only[eJ]
 rw[show Tryz.f54.ntmps=176 from rfl]
 simp only[bX]
 simp only[cF]
 rw[be]
 simp only[gv,aG,List.map_cons,List.map_nil,aZ]
 conv=>whnf
 refine au rfl ?_
 conv=>whnf
 refine aJ.loopF ab ac (fun x:Nat=>x<=q.bad.length) (fun x=>[(8, .int .i64 (x:Int))]) (fun x=>yc p vars (R x)) (fun x=>q.bad.length-x) 0 (Nat.zero_le _) ?_;conv=>whnf
 refine⟨by rw[hR0];exact aH.by_ KE _ 400 rfl (aa) (aa),?_⟩
 rintro x hx
 conv=>whnf
 refine ae ?_ ?_<;>(intro h1;conv=>whnf)
 ·have hxl:x<q.bad.length:=by omega
  refine cO hk ?_
  conv=>whnf
  have hR1:=hRn x hxl
  have hl1:=hRl x hx
  have hg1:=hg x hxl
  apply c5
  case k=>
   intro o1 o2 o3 o4 o5 o6
   refine fC [0,1,2,3,5,6,7,8,9,11,12,13,14,15,17,18,22,23] (by decide+kernel) ?_
   conv=>whnf
   repeat' first
    |exact True.intro
    |(refine And.intro ?_ ?_<;>conv=>whnf)
    |(refine bU ?_;conv=>whnf)
    |(refine bg (by clear o1 o2 o3 o4 o5 o6;omega) ?_;conv=>whnf)
    |(refine nK trivial (by clear o1 o2 o3 o4 o5 o6;omega) ?_;conv=>whnf)
    |(refine aj.call qX (cU p vars (R x)) 400 rfl (aa) (aa) hg1 ?_;rintro u M' ⟨rfl,rfl⟩;refine⟨qY,Ar 202 p vars (R x), .agg [.sl 0 al (vars.map (qV p seg (q.bad.getD (x:Int).toNat b9).states)), .int .i64 (-(q.bad.getD (x:Int).toNat b9).least)],rfl,(aa),(aa),?_⟩;conv=>whnf)
    |(refine bp ar aw [aQ vars (qV p seg (q.bad.getD (x:Int).toNat b9).states,-(q.bad.getD (x:Int).toNat b9).least)] rfl ?_;conv=>whnf)
    |(refine bq [aQ vars (qV p seg (q.bad.getD (x:Int).toNat b9).states,-(q.bad.getD (x:Int).toNat b9).least)] rfl (by clear o1 o2 o3 o4 o5 o6;simp only[List.length_cons,List.length_nil];omega) ?_;conv=>whnf)
    |with_reducible assumption
    |fail
  all_goals try first
   |exact True.intro
   |exact True
  all_goals
   repeat' first|refine dt ?_;conv=>whnf|fail
   refine⟨x+1,?_,by omega,by dsimp only;omega⟩
   dsimp only
   rw[hR1]
   exact aH.by_ [(200, .old 200),(201, .old 201),(202, .old 48)] _ 400 rfl (aa) (aa)
 ·obtain rfl:x=q.bad.length:=by omega
  refine cO hk ?_
  conv=>whnf
  exact⟨rfl,(aa)⟩
theorem jG {V:List Vb} {r s:Rw} (h:∀v∈V,r.1 v=s.1 v) (h2:r.2=s.2):aQ V r=aQ V s:=by
 unfold aQ
 rw[h2,List.map_congr_left h]
theorem lH {α:Type} {V:List Vb} {f g:α->Rw} (l:List α) (h:∀a∈l,aQ V (f a)=aQ V (g a)):(l.map f).map (aQ V)=(l.map g).map (aQ V):=by
 rw[List.map_map,List.map_map]
 exact List.map_congr_left h
section
variable {p:av} {q:aP} {sch:List Int} (hq:bD p q=0) (ht:mE p)
include hq
theorem Aj {kind:Int} (hk:kind=3\/kind=4) (l:lp) (hl:l.c=0):aQ (az p q sch) (nH kind l,0)=aQ (az p q sch) (jK kind p.states.length 1 l):=by
 refine jG (fun v hv=>?_) ?_
 ·have:=CK (ef hq hv) hk
  show x9 kind v+-1*bH l v=zC v+1*tP kind p.states.length v+-1*bH l v
  rw[this];unfold zC;omega
 ·show(0:Int)=-1*l.c
  rw[hl];rfl
theorem Ak {kind:Int} (hk:kind=3\/kind=4) (l:lp) (hl:l.c=0):aQ (az p q sch) (xZ kind l,0)=aQ (az p q sch) (jK kind p.states.length (-1) l):=by
 refine jG (fun v hv=>?_) ?_
 ·have:=CK (ef hq hv) hk
  show zC v+-1*(x9 kind v+-1*bH l v)=zC v+-1*tP kind p.states.length v+(- -1)*bH l v
  rw[this,Int.neg_neg];unfold zC;omega
 ·show(0:Int)=- -1*l.c
  rw[hl];rfl
theorem Iu:(uB p).map (aQ (az p q sch))=((i9 p).map qz++oh p).map (aQ (az p q sch)):=by
 have e1:=Aj (sch:=sch) hq (kind:=3) (.inl rfl) lS rfl
 have e2:=Ak (sch:=sch) hq (kind:=3) (.inl rfl) lS rfl
 have e3:=Aj (sch:=sch) hq (kind:=4) (.inr rfl) lF rfl
 have e4:=Ak (sch:=sch) hq (kind:=4) (.inr rfl) lF rfl
 unfold uB oh
 by_cases h:jZ p
 ·rw[if_pos h,if_pos h]
  simp only[List.map_append,List.map_cons,List.map_nil,e1,e2,e3,e4,List.append_assoc]
  rfl
 ·rw[if_neg h,if_neg h]
  simp only[List.map_append,List.map_cons,List.map_nil,e1,e2,List.append_assoc]
  rfl
include ht
theorem wv {start fire:Int} (hs:start=3/\fire=5\/start=4/\fire=6) (x j:Nat):aQ (az p q sch) (bO p.rules start fire x j,0)=aQ (az p q sch) (Er p start fire x j):=by
 refine jG (fun v hv=>?_) rfl
 have:=tR ht (ef hq hv) (state:=x) (seg:=j) hs
 show bO p.rules start fire x j v=zC v+1*dE p.rules start fire x (j+1) 0 v
 rw[this];unfold zC;omega
omit ht
theorem Fc (hw:¬jZ p) {v:Vb} (hv:v∈az p q sch) (message:Int) (j:Nat):c7 p.rules 6 message j 0 v=0:=by
 rw[<-mF (ef hq hv) (.inr rfl)]
 unfold bJ
 have:=ef hq hv
 rw[if_neg]
 rintro⟨h1,_⟩
 rcases this with (rfl|rfl|rfl)|h|h
 ·dsimp only at h1;omega
 ·dsimp only at h1;omega
 ·dsimp only at h1;omega
 ·omega
 ·rcases h.1 with h|h
  ·omega
  ·exact hw h.2
theorem Iv (g:fH) (j:Nat):aQ (az p q sch) (l0 p g j,-g.bound.c)=aQ (az p q sch) (qA p g j):=by
 refine jG (fun v hv=>?_) rfl
 have h5:=mF (ef hq hv) (message:=g.message) (seg:=j) (fire:=5) (.inl rfl)
 have h6:=mF (ef hq hv) (message:=g.message) (seg:=j) (fire:=6) (.inr rfl)
 have h0:=fun hw=>Fc (sch:=sch) hq hw hv g.message j
 show l0 p g j v=(qA p g j).1 v
 unfold l0 qA
 dsimp only
 by_cases hw:jZ p
 ·have h3:¬p.fault=3:=by unfold jZ at hw;omega
  rw[if_pos hw,if_neg h3]
  unfold bo
  rw[h5,h6]
 ·have h0':=h0 hw
  rw[if_neg hw]
  by_cases h3:p.fault=3
  ·rw[if_pos h3,if_pos h3]
   unfold bo fq
   dsimp only
   rw[h5,h0']
   unfold bH lF
   dsimp only
   by_cases e:v=⟨2,0,0⟩
   ·subst e
    simp only[if_true]
    rw[if_neg (by intro h;cases h),if_neg (by intro h;cases h)]
    omega
   ·rw[if_neg e,if_neg e]
    simp
    exact fun h=>absurd h e
  ·rw[if_neg h3,if_neg h3]
   unfold bo
   rw[h5,h0']
   simp
include ht
theorem Iw (j:Nat):(B6 p sch j).map (aQ (az p q sch))=(oi p sch j).map (aQ (az p q sch)):=by
 unfold B6 oi
 rw[List.map_append,List.map_append,List.map_append,List.map_append]
 congr 1
 ·congr 1
  ·split
   ·rw[List.map_cons,List.map_cons,Iv hq,List.map_nil]
   ·rfl
  ·exact lH _ fun x _=>wv hq ht (.inl ⟨rfl,rfl⟩) x j
 ·split
  ·exact lH _ fun x _=>wv hq ht (.inr ⟨rfl,rfl⟩) x j
  ·rfl
theorem Al (seg:Nat) (states:List Int) (least:Int):aQ (az p q sch) (qV p seg states,-least)=aQ (az p q sch) (uP p seg states least):=by
 refine jG (fun v hv=>?_) rfl
 have key:∀(l:List Int) (c d:Co),c v=d v->l.foldl (fun c x=>bo c 1 (bO p.rules 3 5 x seg)) c v=l.foldl (fun c x=>bo c 1 (dE p.rules 3 5 x (seg+1) 0)) d v:=by
  intro l
  induction l with
  |nil=>intro c d h;exact h
  |cons x l ih=>
   intro c d h
   rw[List.foldl_cons,List.foldl_cons]
   refine ih _ _ ?_
   unfold bo
   rw[h,tR ht (ef hq hv) (.inl ⟨rfl,rfl⟩)]
 exact key states zC zC rfl
theorem Ix (seg:Nat) (r:cf) (ch:Int):aQ (az p q sch) (Ai p seg r ch)=aQ (az p q sch) (rF p seg r ch):=by
 unfold Ai rF
 by_cases h:ch=0
 ·rw[if_pos h,if_pos h]
  refine jG (fun v hv=>?_) rfl
  show zC v+-1*bO p.rules 3 5 r.src seg v=zC v+-1*dE p.rules 3 5 r.src (seg+1) 0 v
  rw[tR ht (ef hq hv) (.inl ⟨rfl,rfl⟩)]
 ·rw[if_neg h,if_neg h]
  dsimp only
  generalize r.guards.getD (ch-1).toNat aM=g
  refine jG (fun v hv=>?_) rfl
  have h5:=mF (ef hq hv) (message:=g.message) (seg:=seg+1) (fire:=5) (.inl rfl)
  have h6:=mF (ef hq hv) (message:=g.message) (seg:=seg+1) (fire:=6) (.inr rfl)
  dsimp only
  by_cases hf:p.fault=1
  ·rw[if_pos hf,if_pos hf]
   unfold bo
   rw[h5,h6]
   unfold zC;omega
  ·rw[if_neg hf,if_neg hf]
   unfold bo
   rw[h5]
   unfold zC;omega
theorem end_same (seg number:Nat):(pX p q seg (rk p number)).map (aQ (az p q sch))=(oj p q seg number).map (aQ (az p q sch)):=by
 unfold pX oj
 split
 ·exact lH _ fun c _=>Al hq ht seg c.states c.least
 ·rw[List.map_cons,List.map_cons,lu]
  congr 1
  ·exact Al hq ht seg (Bk p q) 1
  ·exact lH _ fun i _=>Ix hq ht seg _ _
theorem Fd (number:Int):(uB p).map (aQ (az p q sch))++Fb p sch (az p q sch) (sch.length+1)++(if 0<=number then(pX p q sch.length (rk p number.toNat)).map (aQ (az p q sch)) else[])=gy p q sch number:=by
 unfold gy tQ Fb
 rw[Iu hq,List.map_append,List.map_append,List.map_append,List.map_append]
 congr 1
 ·congr 1
  rw[List.map_flatMap,List.map_flatMap]
  congr 1
  funext j
  exact Iw hq ht j
 ·split
  ·exact end_same hq ht _ _
  ·rfl
end
end Go.Proofs.YtekmminpfhacpaaGreatDoor
