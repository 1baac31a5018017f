import Derived.Test.YtnjggjhkfncnlaaGreatDoorY2
set_option linter.unusedVariables false
set_option linter.unusedSimpArgs false
namespace Go.Proofs.YtnjggjhkfncnlaaGreatDoor
set_option maxRecDepth 100000
set_option maxHeartbeats 16000000
def xv (p:au) (sch:List Int) (j:Nat):List Rw:=
 (if 0<j then[(j0 p ((aA p.rules).getD (sch.getD (j-1) 0).toNat aE) j,-((aA p.rules).getD (sch.getD (j-1) 0).toNat aE).bound.c)] else[])++((List.range p.states.length).map fun x:Nat=>((br p.rules 3 5 x j,0):Rw))++(if gq p then(List.range p.states.length).map fun x:Nat=>((br p.rules 4 6 x j,0):Rw) else[])
theorem Dk (p:au) (sch:List Int) (j:Nat):(xv p sch j).length<=1+2*p.states.length:=by
 unfold xv
 rw[List.length_append,List.length_append]
 split<;>split<;>simp<;>omega
def z6 (p:au) (sch:List Int) (vars:List Vb) (n:Nat):List cK:=((List.range n).flatMap (xv p sch)).map (aN vars)
theorem vK (p:au) (sch:List Int) (vars:List Vb) (n:Nat):z6 p sch vars (n+1)=z6 p sch vars n++(xv p sch n).map (aN vars):=by
 unfold z6
 rw[List.range_succ,List.flatMap_append,List.map_append]
 simp
theorem tA {p:au} (h:p.states.length<=6) (sch:List Int) (vars:List Vb):∀n,(z6 p sch vars n).length<=13*n
 |0=>by simp[z6]
 |n+1=>by
  rw[vK,List.length_append,List.length_map]
  have a:=tA h sch vars n
  have b:=Dk p sch n
  omega
theorem JF (p:au) (q:aV) (sch:List Int) (rows:List cK) (hp:gM p) (hq:aZ p q=0) (hs:cM (aA p.rules).length sch) (hr:rows.length<=1000):
  ak Tryz.prog 105 [.ptr 200 0, .sl 0 an sch] (aj.ofL (cq p (ao p q sch) rows)) (fun u M=>u= .tup []/\M=aj.ofL (tU p (ao p q sch) (rows++z6 p sch (ao p q sch) (sch.length+1)))):=by
 have hV:=(aQ hq).vld
 have wl:=(aK hV).len
 have wT:=(aK hV).thr
 have hsl:=cH hs
 have hv:=dM hq hs
 have hru:=qm (sch:=sch) hq
 have hgua:=fun rows (j:Nat) (hj:0<j/\j<=sch.length)=>JB p q sch rows hq hs ((aA p.rules).getD (sch.getD ((j:Int)-1).toNat 0).toNat aE)
  ((ti hV (aP (l:=aA p.rules) aE (by have:=hs ((j:Int)-1).toNat (by omega);omega))).2.1) ((ti hV (aP (l:=aA p.rules) aE (by have:=hs ((j:Int)-1).toNat (by omega);omega))).2.2) j
 have haft:=fun rows j (x:Nat)=>Dh p (ao p q sch) rows (by omega) (by omega) (fun x hx hk=>hru x hx (.inl hk)) j (x:Int)
 have hafq:=fun rows j (x:Nat)=>JA p (ao p q sch) rows (by omega) (by omega) (fun x hx hk=>hru x hx (.inr hk)) j (x:Int)
 generalize ao p q sch=vars at*
 obtain⟨R,hR⟩:∃R:Nat->List cK,R=fun j=>rows++z6 p sch vars j:=⟨_,rfl⟩
 obtain⟨A,hA⟩:∃A:Nat->Nat->List cK,A=fun j x=>R j++(if 0<j then[aN vars (j0 p ((aA p.rules).getD (sch.getD (j-1) 0).toNat aE) j,-((aA p.rules).getD (sch.getD (j-1) 0).toNat aE).bound.c)] else[])++(List.range x).map fun x:Nat=>aN vars (br p.rules 3 5 x j,0):=⟨_,rfl⟩
 obtain⟨B,hB⟩:∃B:Nat->Nat->List cK,B=fun j x=>A j p.states.length++(List.range x).map fun x:Nat=>aN vars (br p.rules 4 6 x j,0):=⟨_,rfl⟩
 have hR0:R 0=rows:=by rw[hR];simp[z6]
 have hA0:∀j:Nat,0<j->A j 0=R j++[aN vars (j0 p ((aA p.rules).getD (sch.getD ((j:Int)-1).toNat 0).toNat aE) j,-((aA p.rules).getD (sch.getD ((j:Int)-1).toNat 0).toNat aE).bound.c)]:=fun j h=>by
  rw[hA,show((j:Int)-1).toNat=j-1 by omega];simp only[if_pos h,List.range_zero,List.map_nil,List.append_nil]
 have hAz:∀j:Nat,¬0<j->A j 0=R j:=fun j h=>by
  rw[hA];simp only[if_neg h,List.range_zero,List.map_nil,List.append_nil]
 have hAn:∀j x:Nat,A j (x+1)=A j x++[aN vars (br p.rules 3 5 x j,0)]:=fun j x=>by
  rw[hA];simp only[List.range_succ,List.map_append,List.map_cons,List.map_nil,List.append_assoc]
 have hB0:∀j,B j 0=A j p.states.length:=fun j=>by rw[hB];simp
 have hBn:∀j x:Nat,B j (x+1)=B j x++[aN vars (br p.rules 4 6 x j,0)]:=fun j x=>by
  rw[hB];simp only[List.range_succ,List.map_append,List.map_cons,List.map_nil,List.append_assoc]
 have hRl:∀j,j<=sch.length+1->(R j).length<=2000:=fun j hj=>by
  have:=tA (p:=p) (by omega) sch vars j
  rw[hR];simp only[List.length_append];omega
 have hAl:∀j x,j<=sch.length+1->x<=p.states.length->(A j x).length<=3000:=fun j x hj hx=>by
  have a:=hRl j hj
  have:(if 0<j then[aN vars (j0 p ((aA p.rules).getD (sch.getD (j-1) 0).toNat aE) j,-((aA p.rules).getD (sch.getD (j-1) 0).toNat aE).bound.c)] else[]).length<=1:=by split<;>simp
  rw[hA];simp only[List.length_append,List.length_map,List.length_range];omega
 have hBl:∀j x,j<=sch.length+1->x<=p.states.length->(B j x).length<=4000:=fun j x hj hx=>by
  have a:=hAl j p.states.length hj (Nat.le_refl _)
  rw[hB];simp only[List.length_append,List.length_map,List.length_range];omega
 have hRn:∀j,R (j+1)=if gq p then B j p.states.length else B j 0:=fun j=>by
  by_cases h1:0<j<;>by_cases h2:gq p<;>simp[hR,hA,hB,vK,xv,h1,h2,List.map_map,Function.comp_def]
 rw[show rows++z6 p sch vars (sch.length+1)=R (sch.length+1) by rw[hR]]
 clear hR hA hB
 refine ak.renorm 400 (R:=fun u M=>u= .tup []/\cU nN 400 M (tU p vars (R (sch.length+1)))) ?_ ?_
 case refine_2=>
  rintro u M ⟨rfl,hM⟩
  exact⟨nN,_, .tup [],rfl,hM,trivial,rfl,rfl⟩
 refine ak.intro ac ag (cq p vars rows) Tryz.func105 rfl (by decide) ?_
 conv=>whnf
 (refine oP (iW p hp hV) ?_;conv=>whnf)
 refine aH.loopF ac ag (fun j:Nat=>j<=sch.length+1) (fun j=>[(6, .int .i64 (j:Int))]) (fun j=>tU p vars (R j)) (fun j=>sch.length+1-j) 0 (Nat.zero_le _) ?_;conv=>whnf
 refine⟨by rw[hR0];exact aL.by_ FA _ 400 rfl (aa) (aa),?_⟩
 rintro j hj
 conv=>whnf
 refine ah ?_ ?_<;>(intro h1;conv=>whnf)
 ·have hjl:j<=sch.length:=by omega
  have hRl1:=hRl j hj
  apply once (A:=aH Tryz.prog _ (.loop _) ([.ptr 200 0, .sl 0 an sch, .top, .top, .sl aE bT (aA p.rules), .int .i64 0, .int .i64 (j:Int), .int .i64 0, .top, .top, .ptr 200 0, .ptr 200 0, .ptr 200 (0+0), .agg (aO p), .top, .sl aE bT (aA p.rules), .int .i64 0]++List.replicate 81 .top) (aj.ofL (tU p vars (A j 0))) _)
  case k=>
   intro hs0
   refine ah ?_ ?_<;>(intro h2;conv=>whnf)
   rotate_left
   ·exact aH.sub (by rw[hAz j (by omega)];exact aL.by_ nN _ 400 rfl (aa) (aa)) hs0
   ·have hA1:=hA0 j (by omega)
    have hb1:=hs ((j:Int)-1).toNat (by omega)
    have hc:=hgua (R j) j ⟨by omega,hjl⟩
    apply cA
    case k=>
     intro o1 o2 o3 o4 o5 o6
     refine em [0,1,2,3,5,6,7,8,11,13,14,18,19] (by decide+kernel) ?_
     conv=>whnf
     repeat' first
      |exact True.intro
      |(refine And.intro ?_ ?_<;>conv=>whnf)
      |(refine cb ?_;conv=>whnf)
      |(refine bI (by clear o1 o2 o3 o4 o5 o6;omega) ?_;conv=>whnf)
      |(refine ub trivial (by clear o1 o2 o3 o4 o5 o6;omega) ?_;conv=>whnf)
      |(refine ak.call nO (cq p vars (R j)) 400 rfl (aa) (aa) hc ?_;rintro u M' ⟨rfl,rfl⟩;refine⟨nQ,v6 202 p vars (R j), .agg [.sl 0 an (vars.map (j0 p ((aA p.rules).getD (sch.getD ((j:Int)-1).toNat 0).toNat aE) j)), .int .i64 (-((aA p.rules).getD (sch.getD ((j:Int)-1).toNat 0).toNat aE).bound.c)],rfl,(aa),(aa),?_⟩;conv=>whnf)
      |(refine bw bz bE [aN vars (j0 p ((aA p.rules).getD (sch.getD ((j:Int)-1).toNat 0).toNat aE) j,-((aA p.rules).getD (sch.getD ((j:Int)-1).toNat 0).toNat aE).bound.c)] rfl ?_;conv=>whnf)
      |(refine bD [aN vars (j0 p ((aA p.rules).getD (sch.getD ((j:Int)-1).toNat 0).toNat aE) j,-((aA p.rules).getD (sch.getD ((j:Int)-1).toNat 0).toNat aE).bound.c)] rfl (by clear o1 o2 o3 o4 o5 o6;simp only[List.length_cons,List.length_nil];omega) ?_;conv=>whnf)
      |with_reducible exact o1
      |with_reducible exact o2
      |with_reducible exact o3
      |with_reducible exact o4
      |with_reducible exact o5
      |with_reducible exact o6
      |fail
    all_goals try first
     |exact True.intro
     |exact True
    all_goals
     exact aH.sub (by rw[hA1];exact aL.by_ [(200, .old 200),(201, .old 201),(202, .old 42)] _ 400 rfl (aa) (aa)) hs0
  case h=>
   refine aH.loopF ac ag (fun x:Nat=>x<=p.states.length) (fun x=>[(7, .int .i64 (x:Int))]) (fun x=>tU p vars (A j x)) (fun x=>p.states.length-x) 0 (Nat.zero_le _) ?_;conv=>whnf
   refine⟨aL.by_ nN _ 400 rfl (aa) (aa),?_⟩
   rintro x hx
   conv=>whnf
   refine ah ?_ ?_<;>(intro h3;conv=>whnf)
   ·have hl1:=hAl j x hj hx
    have hA1:=hAn j x
    have hc:=haft (A j x) j x
    generalize br p.rules 3 5 x j=AF at*
    apply cA
    case k=>
     intro o1 o2 o3 o4 o5 o6
     refine em [0,1,2,3,5,6,7,11,12] (by decide+kernel) ?_
     conv=>whnf
     repeat' first
      |exact True.intro
      |(refine And.intro ?_ ?_<;>conv=>whnf)
      |(refine cb ?_;conv=>whnf)
      |(refine bI (by clear o1 o2 o3 o4 o5 o6;omega) ?_;conv=>whnf)
      |(refine ub trivial (by clear o1 o2 o3 o4 o5 o6;omega) ?_;conv=>whnf)
      |(refine ak.call nO (cq p vars (A j x)) 400 rfl (aa) (aa) hc ?_;rintro u M' ⟨rfl,rfl⟩;refine⟨nQ,v6 202 p vars (A j x), .agg [.sl 0 an (vars.map AF), .int .i64 0],rfl,(aa),(aa),?_⟩;conv=>whnf)
      |(refine bw bz bE [aN vars (AF,0)] rfl ?_;conv=>whnf)
      |(refine bD [aN vars (AF,0)] rfl (by clear o1 o2 o3 o4 o5 o6;simp only[List.length_cons,List.length_nil];omega) ?_;conv=>whnf)
      |with_reducible exact o1
      |with_reducible exact o2
      |with_reducible exact o3
      |with_reducible exact o4
      |with_reducible exact o5
      |with_reducible exact o6
      |fail
    all_goals try first
     |exact True.intro
     |exact True
    all_goals
     repeat' ((first|refine nI ?_|refine aI ?_|refine tI ?_|refine fI ?_|fail);conv=>whnf)
     refine⟨x+1,?_,by omega,by dsimp only;omega⟩
     dsimp only
     rw[hA1]
     exact aL.by_ [(200, .old 200),(201, .old 201),(202, .old 65)] _ 400 rfl (aa) (aa)
   ·obtain rfl:x=p.states.length:=by omega
    refine aH.loopF ac ag (fun x:Nat=>x<=p.states.length/\(¬gq p->x=0)) (fun x=>[(8, .int .i64 (x:Int))]) (fun x=>tU p vars (B j x)) (fun x=>p.states.length-x) 0 ⟨Nat.zero_le _,fun _=>rfl⟩ ?_;conv=>whnf
    refine⟨by rw[hB0];exact aL.by_ nN _ 400 rfl (aa) (aa),?_⟩
    rintro x ⟨hx,hx0⟩
    conv=>whnf
    refine ah ?_ ?_<;>(intro h3;conv=>whnf)
    ·refine dC (d7 p) (fun _=>?_) (fun _=>?_)<;>(conv=>whnf)
     ·rename_i hw
      have hl1:=hBl j x hj hx
      have hB1:=hBn j x
      have hc:=hafq (B j x) j x
      generalize br p.rules 4 6 x j=AF at*
      apply cA
      case k=>
       intro o1 o2 o3 o4 o5 o6
       refine em [0,1,2,3,5,6,7,11,12] (by decide+kernel) ?_
       conv=>whnf
       repeat' first
        |exact True.intro
        |(refine And.intro ?_ ?_<;>conv=>whnf)
        |(refine cb ?_;conv=>whnf)
        |(refine bI (by clear o1 o2 o3 o4 o5 o6;omega) ?_;conv=>whnf)
        |(refine ub trivial (by clear o1 o2 o3 o4 o5 o6;omega) ?_;conv=>whnf)
        |(refine ak.call nO (cq p vars (B j x)) 400 rfl (aa) (aa) hc ?_;rintro u M' ⟨rfl,rfl⟩;refine⟨nQ,v6 202 p vars (B j x), .agg [.sl 0 an (vars.map AF), .int .i64 0],rfl,(aa),(aa),?_⟩;conv=>whnf)
        |(refine bw bz bE [aN vars (AF,0)] rfl ?_;conv=>whnf)
        |(refine bD [aN vars (AF,0)] rfl (by clear o1 o2 o3 o4 o5 o6;simp only[List.length_cons,List.length_nil];omega) ?_;conv=>whnf)
        |with_reducible exact o1
        |with_reducible exact o2
        |with_reducible exact o3
        |with_reducible exact o4
        |with_reducible exact o5
        |with_reducible exact o6
        |fail
      all_goals try first
       |exact True.intro
       |exact True
      all_goals
       repeat' ((first|refine nI ?_|refine aI ?_|refine tI ?_|refine fI ?_|fail);conv=>whnf)
       refine⟨x+1,?_,⟨by omega,fun h=>absurd hw h⟩,by dsimp only;omega⟩
       dsimp only
       rw[hB1]
       exact aL.by_ [(200, .old 200),(201, .old 201),(202, .old 95)] _ 400 rfl (aa) (aa)
     ·rename_i hw
      have hRn1:=hRn j
      rw[if_neg hw,<-hx0 hw] at hRn1
      repeat' ((first|refine nI ?_|refine aI ?_|refine tI ?_|refine fI ?_|fail);conv=>whnf)
      refine⟨j+1,?_,by omega,by dsimp only;omega⟩
      dsimp only
      rw[hRn1]
      exact aL.by_ nN _ 400 rfl (aa) (aa)
    ·have hRn1:=hRn j
     obtain rfl:x=p.states.length:=by omega
     have hw:gq p:=Classical.byContradiction fun h=>by have:=hx0 h;omega
     rw[if_pos hw] at hRn1
     repeat' ((first|refine nI ?_|refine aI ?_|refine tI ?_|refine fI ?_|fail);conv=>whnf)
     refine⟨j+1,?_,by omega,by dsimp only;omega⟩
     dsimp only
     rw[hRn1]
     exact aL.by_ nN _ 400 rfl (aa) (aa)
 ·obtain rfl:j=sch.length+1:=by omega
  exact⟨rfl,(aa)⟩
def vL (p:au) (seg:Nat) (r:bp) (ch:Int):Rw:=
 if ch=0 then(ba zC (-1) (br p.rules 3 5 r.src seg),0)
 else
  let g:=r.guards.getD (ch-1).toNat aE
  (if p.fault=1 then ba (ba (bf g.bound) (-g.coef) (bn p.rules 5 g.message (seg+1))) (-g.coef) (bn p.rules 6 g.message (seg+1)) else ba (bf g.bound) (-g.coef) (bn p.rules 5 g.message (seg+1)),g.bound.c-1)
def mT (p:au) (q:aV) (seg:Nat) (C:List Int):List Rw:=
 if q.kind=1 then q.bad.map fun c=>(nM p seg c.states,-c.least)
 else(nM p seg (w7 p q),-1)::(List.range C.length).map fun i=>vL p seg (p.rules.getD i ar) (C.getD i 0)
theorem JG (p:au) (q:aV) (vars:List Vb) (rows:List cK) (hv:vars.length<=1000) (hrl:p.rules.length<=1000) (hru:Fz p vars) (hr:rows.length<=2000) (hk:q.kind=1) (hbl:q.bad.length<=1000)
  (hbad:∀i,i<q.bad.length->(q.bad.getD i bP).states.length<=1000/\0<=(q.bad.getD i bP).least/\(q.bad.getD i bP).least<=1000) (seg:Nat) (C:List Int):
  ak Tryz.prog 106 [.ptr 200 0, .agg (fg q), .int .i64 (seg:Int), .sl 0 an C] (aj.ofL (cq p vars rows)) (fun u M=>u= .tup []/\M=aj.ofL (tU p vars (rows++(mT p q seg C).map (aN vars)))):=by
 obtain⟨R,hR⟩:∃R:Nat->List cK,R=fun x=>rows++(q.bad.take x).map fun c=>aN vars (nM p seg c.states,-c.least):=⟨_,rfl⟩
 have hR0:R 0=rows:=by rw[hR];simp
 have hRn:∀x,x<q.bad.length->R (x+1)=R x++[aN vars (nM p seg (q.bad.getD (x:Int).toNat bP).states,-(q.bad.getD (x:Int).toNat bP).least)]:=fun x hx=>by
  rw[hR,tN]
  dsimp only
  rw[List.take_succ_eq_append_getElem hx,List.map_append,<-List.append_assoc,ay bP hx]
  rfl
 have hRl:∀x,x<=q.bad.length->(R x).length<=4000:=fun x hx=>by
  rw[hR];simp only[List.length_append,List.length_map,List.length_take];omega
 have hend:rows++(mT p q seg C).map (aN vars)=R q.bad.length:=by
  rw[hR];dsimp only;rw[List.take_length];unfold mT;rw[if_pos hk,List.map_map];rfl
 rw[hend]
 have hg:=fun x (hx:x<q.bad.length)=>Gj p vars (R x) (by omega) hrl hru seg (q.bad.getD (x:Int).toNat bP).states (by rw[tN];exact(hbad x hx).1) (q.bad.getD (x:Int).toNat bP).least (by rw[tN];exact(hbad x hx).2)
 clear hR hend
 refine ak.renorm 400 (R:=fun u M=>u= .tup []/\cU nN 400 M (tU p vars (R q.bad.length))) ?_ ?_
 case refine_2=>
  rintro u M ⟨rfl,hM⟩
  exact⟨nN,_, .tup [],rfl,hM,trivial,rfl,rfl⟩
 refine ak.intro ac ag (cq p vars rows) Tryz.func106 rfl (by decide) ?_
 simp only[eV]
 rw[show Tryz.f106.ntmps=176 from rfl]
 simp only[cy]
 simp only[dv]
 rw[bu]
 simp only[gv,aJ,List.map_cons,List.map_nil,bc]
 conv=>whnf
 refine al rfl ?_
 conv=>whnf
 refine aH.loopF ac ag (fun x:Nat=>x<=q.bad.length) (fun x=>[(8, .int .i64 (x:Int))]) (fun x=>tU p vars (R x)) (fun x=>q.bad.length-x) 0 (Nat.zero_le _) ?_;conv=>whnf
 refine⟨by rw[hR0];exact aL.by_ FA _ 400 rfl (aa) (aa),?_⟩
 rintro x hx
 conv=>whnf
 refine ah ?_ ?_<;>(intro h1;conv=>whnf)
 ·have hxl:x<q.bad.length:=by omega
  refine da hk ?_
  conv=>whnf
  have hR1:=hRn x hxl
  have hl1:=hRl x hx
  have hg1:=hg x hxl
  apply cA
  case k=>
   intro o1 o2 o3 o4 o5 o6
   refine em [0,1,2,3,5,6,7,8,9,11,12,13,14,15,17,18,22,23] (by decide+kernel) ?_
   conv=>whnf
   repeat' first
    |exact True.intro
    |(refine And.intro ?_ ?_<;>conv=>whnf)
    |(refine cb ?_;conv=>whnf)
    |(refine bI (by clear o1 o2 o3 o4 o5 o6;omega) ?_;conv=>whnf)
    |(refine ub trivial (by clear o1 o2 o3 o4 o5 o6;omega) ?_;conv=>whnf)
    |(refine ak.call nO (cq p vars (R x)) 400 rfl (aa) (aa) hg1 ?_;rintro u M' ⟨rfl,rfl⟩;refine⟨nQ,v6 202 p vars (R x), .agg [.sl 0 an (vars.map (nM p seg (q.bad.getD (x:Int).toNat bP).states)), .int .i64 (-(q.bad.getD (x:Int).toNat bP).least)],rfl,(aa),(aa),?_⟩;conv=>whnf)
    |(refine bw bz bE [aN vars (nM p seg (q.bad.getD (x:Int).toNat bP).states,-(q.bad.getD (x:Int).toNat bP).least)] rfl ?_;conv=>whnf)
    |(refine bD [aN vars (nM p seg (q.bad.getD (x:Int).toNat bP).states,-(q.bad.getD (x:Int).toNat bP).least)] rfl (by clear o1 o2 o3 o4 o5 o6;simp only[List.length_cons,List.length_nil];omega) ?_;conv=>whnf)
    |with_reducible exact o1
    |with_reducible exact o2
    |with_reducible exact o3
    |with_reducible exact o4
    |with_reducible exact o5
    |with_reducible exact o6
    |fail
  all_goals try first
   |exact True.intro
   |exact True
  all_goals
   repeat' ((first|refine nI ?_|refine aI ?_|refine tI ?_|refine fI ?_|fail);conv=>whnf)
   refine⟨x+1,?_,by omega,by dsimp only;omega⟩
   dsimp only
   rw[hR1]
   exact aL.by_ [(200, .old 200),(201, .old 201),(202, .old 48)] _ 400 rfl (aa) (aa)
 ·obtain rfl:x=q.bad.length:=by omega
  refine da hk ?_
  conv=>whnf
  exact⟨rfl,(aa)⟩
theorem ic {V:List Vb} {r s:Rw} (h:∀v∈V,r.1 v=s.1 v) (h2:r.2=s.2):aN V r=aN V s:=by
 unfold aN
 rw[h2,List.map_congr_left h]
theorem jM {α:Type} {V:List Vb} {f g:α->Rw} (l:List α) (h:∀a∈l,aN V (f a)=aN V (g a)):(l.map f).map (aN V)=(l.map g).map (aN V):=by
 rw[List.map_map,List.map_map]
 exact List.map_congr_left h
section
variable {p:au} {q:aV} {sch:List Int} (hq:aZ p q=0) (ht:io p)
include hq
theorem vM {kind:Int} (hk:kind=3\/kind=4) (l:g7) (hl:l.c=0):aN (ao p q sch) (lk kind l,0)=aN (ao p q sch) (fh kind p.states.length 1 l):=by
 refine ic (fun v hv=>?_) ?_
 ·have:=yi (cN hq hv) hk
  show jU kind v+-1*bf l v=zC v+1*oq kind p.states.length v+-1*bf l v
  rw[this];unfold zC;omega
 ·show(0:Int)=-1*l.c
  rw[hl];rfl
theorem vN {kind:Int} (hk:kind=3\/kind=4) (l:g7) (hl:l.c=0):aN (ao p q sch) (tz kind l,0)=aN (ao p q sch) (fh kind p.states.length (-1) l):=by
 refine ic (fun v hv=>?_) ?_
 ·have:=yi (cN hq hv) hk
  show zC v+-1*(jU kind v+-1*bf l v)=zC v+-1*oq kind p.states.length v+(- -1)*bf l v
  rw[this,Int.neg_neg];unfold zC;omega
 ·show(0:Int)=- -1*l.c
  rw[hl];rfl
theorem Dl:(qn p).map (aN (ao p q sch))=((fi p).map lP++jh p).map (aN (ao p q sch)):=by
 have e1:=vM (sch:=sch) hq (kind:=3) (.inl rfl) lS rfl
 have e2:=vN (sch:=sch) hq (kind:=3) (.inl rfl) lS rfl
 have e3:=vM (sch:=sch) hq (kind:=4) (.inr rfl) lF rfl
 have e4:=vN (sch:=sch) hq (kind:=4) (.inr rfl) lF rfl
 unfold qn jh
 by_cases h:gq p
 ·rw[if_pos h,if_pos h]
  simp only[List.map_append,List.map_cons,List.map_nil,e1,e2,e3,e4,List.append_assoc]
  rfl
 ·rw[if_neg h,if_neg h]
  simp only[List.map_append,List.map_cons,List.map_nil,e1,e2,List.append_assoc]
  rfl
include ht
theorem r5 {start fire:Int} (hs:start=3/\fire=5\/start=4/\fire=6) (x j:Nat):aN (ao p q sch) (br p.rules start fire x j,0)=aN (ao p q sch) (qS p start fire x j):=by
 refine ic (fun v hv=>?_) rfl
 have:=qa ht (cN hq hv) (state:=x) (seg:=j) hs
 show br p.rules start fire x j v=zC v+1*cW p.rules start fire x (j+1) 0 v
 rw[this];unfold zC;omega
omit ht
theorem z7 (hw:¬gq p) {v:Vb} (hv:v∈ao p q sch) (message:Int) (j:Nat):cX p.rules 6 message j 0 v=0:=by
 rw[<-kH (cN hq hv) (.inr rfl)]
 unfold bn
 have:=cN hq hv
 rw[if_neg]
 rintro⟨h1,_⟩
 rcases this with (rfl|rfl|rfl)|h|h
 ·dsimp only at h1;omega
 ·dsimp only at h1;omega
 ·dsimp only at h1;omega
 ·omega
 ·rcases h.1 with h|h
  ·omega
  ·exact hw h.2
theorem Dm (g:eg) (j:Nat):aN (ao p q sch) (j0 p g j,-g.bound.c)=aN (ao p q sch) (nC p g j):=by
 refine ic (fun v hv=>?_) rfl
 have h5:=kH (cN hq hv) (message:=g.message) (seg:=j) (fire:=5) (.inl rfl)
 have h6:=kH (cN hq hv) (message:=g.message) (seg:=j) (fire:=6) (.inr rfl)
 have h0:=fun hw=>z7 (sch:=sch) hq hw hv g.message j
 show j0 p g j v=(nC p g j).1 v
 unfold j0 nC
 dsimp only
 by_cases hw:gq p
 ·have h3:¬p.fault=3:=by unfold gq at hw;omega
  rw[if_pos hw,if_neg h3]
  unfold ba
  rw[h5,h6]
 ·have h0':=h0 hw
  rw[if_neg hw]
  by_cases h3:p.fault=3
  ·rw[if_pos h3,if_pos h3]
   unfold ba d6
   dsimp only
   rw[h5,h0']
   unfold bf lF
   dsimp only
   by_cases e:v=⟨2,0,0⟩
   ·subst e
    simp only[if_true]
    rw[if_neg (by intro h;cases h),if_neg (by intro h;cases h)]
    omega
   ·rw[if_neg e,if_neg e]
    simp
    exact fun h=>absurd h e
  ·rw[if_neg h3,if_neg h3]
   unfold ba
   rw[h5,h0']
   simp
include ht
theorem Dn (j:Nat):(xv p sch j).map (aN (ao p q sch))=(jX p sch j).map (aN (ao p q sch)):=by
 unfold xv jX
 rw[List.map_append,List.map_append,List.map_append,List.map_append]
 congr 1
 ·congr 1
  ·split
   ·rw[List.map_cons,List.map_cons,Dm hq,List.map_nil]
   ·rfl
  ·exact jM _ fun x _=>r5 hq ht (.inl ⟨rfl,rfl⟩) x j
 ·split
  ·exact jM _ fun x _=>r5 hq ht (.inr ⟨rfl,rfl⟩) x j
  ·rfl
theorem vO (seg:Nat) (states:List Int) (least:Int):aN (ao p q sch) (nM p seg states,-least)=aN (ao p q sch) (qT p seg states least):=by
 refine ic (fun v hv=>?_) rfl
 have key:∀(l:List Int) (c d:Co),c v=d v->l.foldl (fun c x=>ba c 1 (br p.rules 3 5 x seg)) c v=l.foldl (fun c x=>ba c 1 (cW p.rules 3 5 x (seg+1) 0)) d v:=by
  intro l
  induction l with
  |nil=>intro c d h;exact h
  |cons x l ih=>
   intro c d h
   rw[List.foldl_cons,List.foldl_cons]
   refine ih _ _ ?_
   unfold ba
   rw[h,qa ht (cN hq hv) (.inl ⟨rfl,rfl⟩)]
 exact key states zC zC rfl
theorem Dp (seg:Nat) (r:bp) (ch:Int):aN (ao p q sch) (vL p seg r ch)=aN (ao p q sch) (ot p seg r ch):=by
 unfold vL ot
 by_cases h:ch=0
 ·rw[if_pos h,if_pos h]
  refine ic (fun v hv=>?_) rfl
  show zC v+-1*br p.rules 3 5 r.src seg v=zC v+-1*cW p.rules 3 5 r.src (seg+1) 0 v
  rw[qa ht (cN hq hv) (.inl ⟨rfl,rfl⟩)]
 ·rw[if_neg h,if_neg h]
  dsimp only
  generalize r.guards.getD (ch-1).toNat aE=g
  refine ic (fun v hv=>?_) rfl
  have h5:=kH (cN hq hv) (message:=g.message) (seg:=seg+1) (fire:=5) (.inl rfl)
  have h6:=kH (cN hq hv) (message:=g.message) (seg:=seg+1) (fire:=6) (.inr rfl)
  dsimp only
  by_cases hf:p.fault=1
  ·rw[if_pos hf,if_pos hf]
   unfold ba
   rw[h5,h6]
   unfold zC;omega
  ·rw[if_neg hf,if_neg hf]
   unfold ba
   rw[h5]
   unfold zC;omega
theorem Dq (seg number:Nat):(mT p q seg (oe p number)).map (aN (ao p q sch))=(lQ p q seg number).map (aN (ao p q sch)):=by
 unfold mT lQ
 split
 ·exact jM _ fun c _=>vO hq ht seg c.states c.least
 ·rw[List.map_cons,List.map_cons,jI]
  congr 1
  ·exact vO hq ht seg (w7 p q) 1
  ·exact jM _ fun i _=>Dp hq ht seg _ _
theorem z8 (number:Int):(qn p).map (aN (ao p q sch))++z6 p sch (ao p q sch) (sch.length+1)++(if 0<=number then(mT p q sch.length (oe p number.toNat)).map (aN (ao p q sch)) else[])=dq p q sch number:=by
 unfold dq ip z6
 rw[Dl hq,List.map_append,List.map_append,List.map_append,List.map_append]
 congr 1
 ·congr 1
  rw[List.map_flatMap,List.map_flatMap]
  congr 1
  funext j
  exact Dn hq ht j
 ·split
  ·exact Dq hq ht _ _
  ·rfl
end
end Go.Proofs.YtnjggjhkfncnlaaGreatDoor
