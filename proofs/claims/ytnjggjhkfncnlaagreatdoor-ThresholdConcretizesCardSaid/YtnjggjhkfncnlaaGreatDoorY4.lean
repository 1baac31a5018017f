import Derived.Test.YtnjggjhkfncnlaaGreatDoorY3
import Derived.Test.YtnjggjhkfncnlaaGreatDoorW3
import Derived.Test.YtnjggjhkfncnlaaGreatDoorX0
import Derived.Test.YtnjggjhkfncnlaaGreatDoorW0
set_option linter.unusedVariables false
set_option linter.unusedSimpArgs false
namespace Go.Proofs.YtnjggjhkfncnlaaGreatDoor
set_option maxRecDepth 100000
set_option maxHeartbeats 16000000
theorem JH (p:au) (q:aV) (vars:List Vb) (rows:List cK) (hv:vars.length<=1000) (hst:p.states.length<=1000) (hrl:p.rules.length<=1000) (hru:Fz p vars) (hsd:∀i,i<p.rules.length->(p.rules.getD i ar).send.length<=60) (hr:rows.length<=2000) (hk:¬q.kind=1) (hb0:q.bad.length=0) (hgo:q.goal.length<=1000)
  (hlin:∀rows l,ak Tryz.prog 178 [.ptr 200 0, .agg (bM l)] (aj.ofL (cq p vars rows)) (fun u M=>u= .agg [.sl 0 an (vars.map (bf l)), .int .i64 l.c]/\M=aj.ofL (cq p vars rows)))
  (seg:Nat) (hsg:seg<=100) (C:List Int) (hC:C.length=p.rules.length) (hg:∀i,i<p.rules.length->(∀g∈(p.rules.getD i ar).guards,(1<=g.coef/\g.coef<=100)/\c6 g.bound)/\(p.rules.getD i ar).guards.length<=1000/\0<=C.getD i 0/\C.getD i 0<=(p.rules.getD i ar).guards.length):
  ak Tryz.prog 106 [.ptr 200 0, .agg (fg q), .int .i64 (seg:Int), .sl 0 an C] (aj.ofL (cq p vars rows)) (fun u M=>u= .tup []/\M=aj.ofL (tU p vars (rows++(mT p q seg C).map (aN vars)))):=by
 have hin5:=fun x hx hk=>hru x hx (.inl hk)
 have hin6:=fun x hx hk=>hru x hx (.inr hk)
 obtain⟨R,hR⟩:∃R:Nat->List cK,R=fun x=>rows++((nM p seg (w7 p q),-1)::(List.range x).map fun i=>vL p seg (p.rules.getD i ar) (C.getD i 0)).map (aN vars):=⟨_,rfl⟩
 have hR0:R 0=rows++[aN vars (nM p seg (oL q.goal p.states.length),-1)]:=by rw[hR];rfl
 have hRn:∀x,R (x+1)=R x++[aN vars (vL p seg (p.rules.getD x ar) (C.getD x 0))]:=fun x=>by
  rw[hR]
  dsimp only
  rw[List.range_succ]
  simp only[List.map_append,List.map_cons,List.map_nil,List.append_assoc,List.cons_append]
 have hRl:∀x,x<=p.rules.length->(R x).length<=4000:=fun x hx=>by
  rw[hR];simp only[List.length_append,List.length_map,List.length_cons,List.length_range];omega
 have hend:rows++(mT p q seg C).map (aN vars)=R C.length:=by
  rw[hR];unfold mT;rw[if_neg hk]
 rw[hend]
 have hol:=CY q.goal
 have hgat:=Gj p vars rows (by omega) hrl hru seg (oL q.goal p.states.length) (by have:=hol p.states.length;omega) 1 (by omega)
 have hO0:=yA q.goal
 have hOn:=yB q.goal
 have hrow:=fun rows=>yD p vars rows (by omega)
 have haft:=fun rows state=>Dh p vars rows (by omega) hrl hin5 seg state
 have hs5:=fun rows message=>Gh p vars rows (by omega) hrl hsd hin5 message (seg+1)
 have hs6:=fun rows message=>Gi p vars rows (by omega) hrl hsd hin6 message (seg+1)
 generalize nM p seg (oL q.goal p.states.length)=AG at*
 clear hR hend hru hin5 hin6
 generalize hO:oL q.goal=O at*
 clear hO
 refine ak.renorm 400 (R:=fun u M=>u= .tup []/\cU nN 400 M (tU p vars (R C.length))) ?_ ?_
 case refine_2=>
  rintro u M ⟨rfl,hM⟩
  exact⟨nN,_, .tup [],rfl,hM,trivial,rfl,rfl⟩
 refine ak.intro ac ag (cq p vars rows) Tryz.func106 rfl (by decide) ?_
 simp only[eV]
 rw[show Tryz.f106.ntmps=176 from rfl]
 simp only[cy]
 simp only[dv]
 rw[bu]
 simp only[gv,aJ,List.map_cons,List.map_nil,bc]
 conv=>whnf
 refine al rfl ?_
 conv=>whnf
 refine aH.loopF ac ag (fun x:Nat=>x=0) (fun x=>[(8, .int .i64 (x:Int))]) (fun _=>cq p vars rows) (fun x=>x) 0 rfl ?_;conv=>whnf
 refine⟨aL.by_ dS _ 400 rfl (aa) (aa),?_⟩
 rintro x rfl
 conv=>whnf
 refine fI ?_
 conv=>whnf
 refine j' hk ?_
 conv=>whnf
 refine aH.loopF ac ag (fun x:Nat=>x<=p.states.length) (fun x=>[(9, .row 230 (O x).length 1),(10, .int .i64 (x:Int))]) (fun x=>cq p vars rows++[(230, .row 3 0 an (O x))]) (fun x=>p.states.length-x) 0 (Nat.zero_le _) ?_;conv=>whnf
 refine⟨by rw[hO0];exact aL.by_ (dS++[(230, .nil 1)]) _ 400 rfl (aa) (aa),?_⟩
 rintro x hx
 conv=>whnf
 refine ah ?_ ?_<;>(intro h1;conv=>whnf)
 ·have hO1:=hOn x
  have hl1:=hol x
  repeat' ((first|refine nI ?_|refine aI ?_|refine tI ?_|refine fI ?_|fail);conv=>whnf)
  refine dC (zS q.goal (x:Int) (by omega)) (fun _=>?_) (fun _=>?_)<;>(conv=>whnf)
  ·rename_i hm
   rw[if_pos hm,List.append_nil] at hO1
   repeat' ((first|refine nI ?_|refine aI ?_|refine tI ?_|refine fI ?_|fail);conv=>whnf)
   refine⟨x+1,?_,by omega,by dsimp only;omega⟩
   dsimp only
   rw[hO1]
   exact aL.by_ (dS++[(230, .old 230)]) _ 400 rfl (aa) (aa)
  ·rename_i hm
   rw[if_neg hm] at hO1
   repeat' ((first|refine nI ?_|refine aI ?_|refine tI ?_|refine fI ?_|fail);conv=>whnf)
   refine bD [(x:Int)] rfl lI ?_
   conv=>whnf
   repeat' ((first|refine nI ?_|refine aI ?_|refine tI ?_|refine fI ?_|fail);conv=>whnf)
   refine⟨x+1,?_,by omega,by dsimp only;omega⟩
   dsimp only
   rw[hO1]
   exact aL.by_ (dS++[(230, .old 72)]) _ 400 rfl (aa) (aa)
 ·obtain rfl:x=p.states.length:=by omega
  apply once (A:=aH Tryz.prog _ (.loop _) ([.ptr 200 0, .top, .int .i64 (seg:Int), .sl 0 an C]++List.replicate 7 .top++[.int .i64 0]++List.replicate 164 .top) (aj.ofL (tU p vars (R 0))) _)
  case k=>
   intro hs0
   apply cA
   case k=>
    intro o1 o2 o3 o4 o5 o6
    refine em [0,1,2,3,5,6,7,11,12] (by decide+kernel) ?_
    conv=>whnf
    repeat' first
     |exact True.intro
     |(refine And.intro ?_ ?_<;>conv=>whnf)
     |(refine cb ?_;conv=>whnf)
     |(refine bI (by clear o1 o2 o3 o4 o5 o6;omega) ?_;conv=>whnf)
     |(refine ub trivial (by clear o1 o2 o3 o4 o5 o6;omega) ?_;conv=>whnf)
     |(refine ak.hand 230 rfl ?_;refine ak.call dS (cq p vars rows) 400 rfl (aa) (aa) hgat ?_;rintro u M' ⟨rfl,rfl⟩;refine⟨dS,cq p vars rows, .agg [.sl 0 an (vars.map AG), .int .i64 (-1)],rfl,(aa),(aa),?_⟩;conv=>whnf)
     |(refine bw bz bE [aN vars (AG,-1)] rfl ?_;conv=>whnf)
     |(refine bD [aN vars (AG,-1)] rfl (by clear o1 o2 o3 o4 o5 o6;simp only[List.length_cons,List.length_nil];omega) ?_;conv=>whnf)
     |with_reducible exact o1
     |with_reducible exact o2
     |with_reducible exact o3
     |with_reducible exact o4
     |with_reducible exact o5
     |with_reducible exact o6
     |fail
   all_goals try first
    |exact True.intro
    |exact True
   all_goals
    exact aH.sub (by rw[hR0];exact aL.by_ [(200, .old 200),(201, .old 201),(202, .old 83)] _ 400 rfl (aa) (aa)) hs0
  case h=>
   refine aH.loopF ac ag (fun x:Nat=>x<=C.length) (fun x=>[(11, .int .i64 (x:Int))]) (fun x=>tU p vars (R x)) (fun x=>C.length-x) 0 (Nat.zero_le _) ?_;conv=>whnf
   refine⟨aL.by_ nN _ 400 rfl (aa) (aa),?_⟩
   rintro x hx
   conv=>whnf
   refine ah ?_ ?_<;>(intro h1;conv=>whnf)
   ·have hxl:x<p.rules.length:=by omega
    have hl1:=hRl x (by omega)
    have hR1:=hRn x
    obtain⟨hg1,hg2,hg3,hg4⟩:=hg x hxl
    repeat' ((first|refine nI ?_|refine aI ?_|refine tI ?_|refine fI ?_|fail);conv=>whnf)
    rw[tN]
    generalize p.rules.getD x ar=r at*
    generalize hch:C.getD x 0=ch at*
    conv=>whnf
    refine ah ?_ ?_<;>(intro h2;conv=>whnf)
    ·subst h2
     have am:=mS vars zC (br p.rules 3 5 r.src seg) 0 0 (-1) 0 (by omega) (by omega) (by omega) (jV (by omega)) (fun v=>by have:=xu p.rules 3 5 r.src seg v;omega) (by omega) (by omega)
     have ha:=haft (R x) r.src
     have hw:=hrow (R x)
     have e:vL p seg r 0=(ba zC (-1) (br p.rules 3 5 r.src seg),0):=by unfold vL;rw[if_pos rfl]
     rw[e] at hR1
     clear e
     generalize ba zC (-1) (br p.rules 3 5 r.src seg)=I0 at*
     generalize br p.rules 3 5 r.src seg=AF at*
     apply cA
     case k=>
      intro o1 o2 o3 o4 o5 o6
      refine em [0,1,2,3,5,7,8,9,15,16] (by decide+kernel) ?_
      conv=>whnf
      repeat' first
       |exact True.intro
       |(refine And.intro ?_ ?_<;>conv=>whnf)
       |(refine cb ?_;conv=>whnf)
       |(refine bI (by clear o1 o2 o3 o4 o5 o6;omega) ?_;conv=>whnf)
       |(refine ub trivial (by clear o1 o2 o3 o4 o5 o6;omega) ?_;conv=>whnf)
       |(refine ak.call nO (cq p vars (R x)) 400 rfl (aa) (aa) hw ?_;rintro u M' ⟨rfl,rfl⟩;refine⟨nQ,v6 202 p vars (R x), .agg [.sl 0 an (vars.map zC), .int .i64 0],rfl,(aa),(aa),?_⟩;conv=>whnf)
       |(refine ak.call nO (cq p vars (R x)) 400 rfl (aa) (aa) ha ?_;rintro u M' ⟨rfl,rfl⟩;refine⟨nQ,v6 202 p vars (R x), .agg [.sl 0 an (vars.map AF), .int .i64 0],rfl,(aa),(aa),?_⟩;conv=>whnf)
       |(refine oP (am) ?_;conv=>whnf)
       |(refine bw bz bE [aN vars (I0,0)] rfl ?_;conv=>whnf)
       |(refine bD [aN vars (I0,0)] rfl (by clear o1 o2 o3 o4 o5 o6;simp only[List.length_cons,List.length_nil];omega) ?_;conv=>whnf)
       |with_reducible exact o1
       |with_reducible exact o2
       |with_reducible exact o3
       |with_reducible exact o4
       |with_reducible exact o5
       |with_reducible exact o6
       |fail
     all_goals try first
      |exact True.intro
      |exact True
     all_goals
      repeat' ((first|refine nI ?_|refine aI ?_|refine tI ?_|refine fI ?_|fail);conv=>whnf)
      refine⟨x+1,?_,by omega,by dsimp only;omega⟩
      dsimp only
      rw[hR1]
      exact aL.by_ [(200, .old 200),(201, .old 201),(202, .old 119)] _ 400 rfl (aa) (aa)
    ·refine dI ?_
     conv=>whnf
     repeat' ((first|refine nI ?_|refine aI ?_|refine tI ?_|refine fI ?_|fail);conv=>whnf)
     rw[tN,hch]
     repeat' ((first|refine nI ?_|refine aI ?_|refine tI ?_|refine fI ?_|fail);conv=>whnf)
     have hgm:=hg1 _ (aP (l:=r.guards) (k:=(ch-1).toNat) aE (by omega))
     have e0:=vL.eq_1 p seg r ch
     rw[if_neg h2] at e0
     rw[e0] at hR1
     clear e0
     dsimp only at hR1
     generalize r.guards.getD (ch-1).toNat aE=g at hR1 hgm⊢
     repeat' ((first|refine nI ?_|refine aI ?_|refine tI ?_|refine fI ?_|fail);conv=>whnf)
     obtain⟨hgc,hgb⟩:=hgm
     have hbc:=hgb.1
     unfold bO at hbc
     have b5:iY 10000 (bn p.rules 5 g.message (seg+1)):=fun v=>by have:=lV p.rules 5 g.message (seg+1) v;omega
     have b6:iY 10000 (bn p.rules 6 g.message (seg+1)):=fun v=>by have:=lV p.rules 6 g.message (seg+1) v;omega
     have kf:bO (-g.coef):=by unfold bO;omega
     have c1:iY 1000 (ba (bf g.bound) (-g.coef) (bn p.rules 5 g.message (seg+1))):=aC (f5 (nL hgb) kf (lV _ _ _ _)) (by omega)
     have a5:=mS vars (bf g.bound) (bn p.rules 5 g.message (seg+1)) g.bound.c 0 (-g.coef) g.bound.c (by omega) (by omega) (by omega) (aC (nL hgb) (by omega)) b5 (by omega) (by omega)
     have a6:=mS vars _ (bn p.rules 6 g.message (seg+1)) g.bound.c 0 (-g.coef) g.bound.c (by omega) (by omega) (by omega) (aC c1 (by omega)) b6 (by omega) (by omega)
     have hl:=hlin (R x) g.bound
     have h5:=hs5 (R x) g.message
     have h6:=hs6 (R x) g.message
     clear b5 b6 c1
     generalize ba (bf g.bound) (-g.coef) (bn p.rules 5 g.message (seg+1))=E5 at*
     generalize ba E5 (-g.coef) (bn p.rules 6 g.message (seg+1))=E6 at*
     generalize bn p.rules 5 g.message (seg+1)=S5 at*
     generalize bn p.rules 6 g.message (seg+1)=S6 at*
     generalize bf g.bound=LB at*
     rw[show -g.coef=0-g.coef by omega] at a5 a6
     apply cA
     case k=>
      intro o1 o2 o3 o4 o5 o6
      refine f7 [0,1,4,5,7,8,10,12] (by decide+kernel) ?_
      conv=>whnf
      repeat' first
       |exact True.intro
       |(refine And.intro ?_ ?_<;>conv=>whnf)
       |(refine cb ?_;conv=>whnf)
       |(refine bI (by clear o1 o2 o3 o4 o5 o6;omega) ?_;conv=>whnf)
       |(refine ub trivial (by clear o1 o2 o3 o4 o5 o6;omega) ?_;conv=>whnf)
       |(refine ak.call nO (cq p vars (R x)) 400 rfl (aa) (aa) hl ?_;rintro u M' ⟨rfl,rfl⟩;refine⟨nQ,v6 202 p vars (R x), .agg [.sl 0 an (vars.map LB), .int .i64 g.bound.c],rfl,(aa),(aa),?_⟩;conv=>whnf)
       |(refine ak.call nO (cq p vars (R x)) 400 rfl (aa) (aa) h5 ?_;rintro u M' ⟨rfl,rfl⟩;refine⟨nQ,v6 202 p vars (R x), .agg [.sl 0 an (vars.map S5), .int .i64 0],rfl,(aa),(aa),?_⟩;conv=>whnf)
       |(refine oP (a5) ?_;conv=>whnf)
       |with_reducible exact o1
       |with_reducible exact o2
       |with_reducible exact o3
       |with_reducible exact o4
       |with_reducible exact o5
       |with_reducible exact o6
       |fail
     all_goals try first
      |exact True.intro
      |exact True
     all_goals
      refine ah ?_ ?_<;>(intro h3;conv=>whnf)
      ·rw[if_pos h3] at hR1
       apply cA
       case k=>
        intro o1 o2 o3 o4 o5 o6
        refine f7 [1,2,4,5,7,9] (by decide+kernel) ?_
        conv=>whnf
        repeat' first
         |exact True.intro
         |(refine And.intro ?_ ?_<;>conv=>whnf)
         |(refine cb ?_;conv=>whnf)
         |(refine bI (by clear o1 o2 o3 o4 o5 o6;omega) ?_;conv=>whnf)
         |(refine ub trivial (by clear o1 o2 o3 o4 o5 o6;omega) ?_;conv=>whnf)
         |(refine ak.call nO (cq p vars (R x)) 400 rfl (aa) (aa) h6 ?_;rintro u M' ⟨rfl,rfl⟩;refine⟨nQ,v6 202 p vars (R x), .agg [.sl 0 an (vars.map S6), .int .i64 0],rfl,(aa),(aa),?_⟩;conv=>whnf)
         |(refine oP (a6) ?_;conv=>whnf)
         |with_reducible exact o1
         |with_reducible exact o2
         |with_reducible exact o3
         |with_reducible exact o4
         |with_reducible exact o5
         |with_reducible exact o6
         |fail
       all_goals try first
        |exact True.intro
        |exact True
       all_goals
        repeat' ((first|refine nI ?_|refine aI ?_|refine tI ?_|refine fI ?_|fail);conv=>whnf)
        apply cA
        case k=>
         intro o1 o2 o3 o4 o5 o6
         refine em [0,1,2,3,8,9] (by decide+kernel) ?_
         conv=>whnf
         repeat' first
          |exact True.intro
          |(refine And.intro ?_ ?_<;>conv=>whnf)
          |(refine cb ?_;conv=>whnf)
          |(refine bI (by clear o1 o2 o3 o4 o5 o6;omega) ?_;conv=>whnf)
          |(refine ub trivial (by clear o1 o2 o3 o4 o5 o6;omega) ?_;conv=>whnf)
          |(refine bw bz bE [aN vars (E6,g.bound.c-1)] rfl ?_;conv=>whnf)
          |(refine bD [aN vars (E6,g.bound.c-1)] rfl (by clear o1 o2 o3 o4 o5 o6;simp only[List.length_cons,List.length_nil];omega) ?_;conv=>whnf)
          |with_reducible exact o1
          |with_reducible exact o2
          |with_reducible exact o3
          |with_reducible exact o4
          |with_reducible exact o5
          |with_reducible exact o6
          |fail
        all_goals try first
         |exact True.intro
         |exact True
        all_goals
         repeat' ((first|refine nI ?_|refine aI ?_|refine tI ?_|refine fI ?_|fail);conv=>whnf)
         refine⟨x+1,?_,by omega,by dsimp only;omega⟩
         dsimp only
         rw[hR1]
         exact aL.by_ [(200, .old 200),(201, .old 201),(202, .old 173)] _ 400 rfl (aa) (aa)
      ·rw[if_neg h3] at hR1
       repeat' ((first|refine nI ?_|refine aI ?_|refine tI ?_|refine fI ?_|fail);conv=>whnf)
       apply cA
       case k=>
        intro o1 o2 o3 o4 o5 o6
        refine em [0,1,2,3,8,9] (by decide+kernel) ?_
        conv=>whnf
        repeat' first
         |exact True.intro
         |(refine And.intro ?_ ?_<;>conv=>whnf)
         |(refine cb ?_;conv=>whnf)
         |(refine bI (by clear o1 o2 o3 o4 o5 o6;omega) ?_;conv=>whnf)
         |(refine ub trivial (by clear o1 o2 o3 o4 o5 o6;omega) ?_;conv=>whnf)
         |(refine bw bz bE [aN vars (E5,g.bound.c-1)] rfl ?_;conv=>whnf)
         |(refine bD [aN vars (E5,g.bound.c-1)] rfl (by clear o1 o2 o3 o4 o5 o6;simp only[List.length_cons,List.length_nil];omega) ?_;conv=>whnf)
         |with_reducible exact o1
         |with_reducible exact o2
         |with_reducible exact o3
         |with_reducible exact o4
         |with_reducible exact o5
         |with_reducible exact o6
         |fail
       all_goals try first
        |exact True.intro
        |exact True
       all_goals
        repeat' ((first|refine nI ?_|refine aI ?_|refine tI ?_|refine fI ?_|fail);conv=>whnf)
        refine⟨x+1,?_,by omega,by dsimp only;omega⟩
        dsimp only
        rw[hR1]
        exact aL.by_ [(200, .old 200),(201, .old 201),(202, .old 173)] _ 400 rfl (aa) (aa)
   ·obtain rfl:x=C.length:=by omega
    exact⟨rfl,(aa)⟩
theorem Dr {p:au} (h:aB p=0):(qn p).length<=13:=by
 have wl:=(aK h).len
 have hpl:(fi p).length<=9:=by unfold fi;rw[List.length_append,List.length_append];split<;>simp<;>omega
 unfold qn
 rw[List.length_append,List.length_append,List.length_map]
 split<;>simp<;>omega
theorem JI (p:au) (q:aV) (sch:List Int) (rows:List cK) (hq:aZ p q=0) (hs:cM (aA p.rules).length sch) (hr:rows.length<=2000) (number:Nat) (C:List Int) (hC:q.kind=1\/C=oe p number):
  ak Tryz.prog 106 [.ptr 200 0, .agg (fg q), .int .i64 (sch.length:Int), .sl 0 an C] (aj.ofL (cq p (ao p q sch) rows)) (fun u M=>u= .tup []/\M=aj.ofL (tU p (ao p q sch) (rows++(mT p q sch.length (oe p number)).map (aN (ao p q sch))))):=by
 have vq:=aQ hq
 have hV:=vq.vld
 have w:=aK hV
 have wl:=w.len
 have wT:=w.thr
 have hsl:=cH hs
 have hv:=dM hq hs
 have hru:=qm (sch:=sch) hq
 by_cases hk:q.kind=1
 ·have e:mT p q sch.length (oe p number)=mT p q sch.length C:=by unfold mT;rw[if_pos hk,if_pos hk]
  rw[e]
  refine JG p q (ao p q sch) rows (by omega) (by omega) hru hr hk (by have:=(vq.bad hk).1;omega) (fun i hi=>?_) sch.length C
  have c:=k0 vq hk hi
  have:=bq c.1
  omega
 ·obtain rfl:C=oe p number:=by rcases hC with h|h;exact absurd h hk;exact h
  have hk2:q.kind=2:=by rcases vq.kind with h|h;exact absurd h hk;exact h
  refine JH p q (ao p q sch) rows (by omega) (by omega) (by omega) hru (mM hV) hr hk (by have:=vq.shp;omega) (by have:=bq (vq.goal hk2).1;omega) (fun rows l=>yE p q sch rows hq hs l) sch.length (by omega) (oe p number) (jI p number) (fun i hi=>?_)
  refine⟨fun g hg=>(jJ (w.rul i hi) hg).2,by have:=dl hV i hi;omega,?_⟩
  rw[oG hi]
  have:=w6 p.rules number i
  omega
theorem HQ (p:au) (q:aV) (hp:gM p) (hq:qP q) (sch:List Int) (hl:sch.length<=140737488355328) (number:Int):ab Tryz.prog 45 [.agg (aO p), .agg (fg q), .sl 0 an sch, .int .i64 number] (fun u=>u=qi p q sch number):=by
 have he:=qi.eq_1 p q sch number
 refine ab.intro ac ag Tryz.func45 rfl (by decide) ?_;(conv=>whnf)
 refine al rfl ?_
 conv=>whnf
 refine al rfl ?_
 conv=>whnf
 (refine oP (Hq p q hp hq) ?_;conv=>whnf)
 refine ah ?_ ?_<;>(intro h;conv=>whnf)
 ·rw[if_pos h] at he
  exact⟨he.symm,rfl⟩
 have h0:cV p q=0:=Classical.not_not.1 h
 have hq0:=c8 h0
 have hV:=(aQ hq0).vld
 have hcs:=xh h0
 have ht:=(tp h0).1
 rw[if_neg (by omega)] at he
 refine dC (xj p hp hV sch hl) (fun _=>?_) (fun _=>?_)<;>(conv=>whnf)
 rotate_left
 ·rename_i hs
  rw[if_pos (.inl hs)] at he
  exact⟨he.symm,rfl⟩
 rename_i hs
 refine ah ?_ ?_<;>(intro h1;conv=>whnf)
 ·rw[if_pos (.inr (.inl h1))] at he
  exact⟨he.symm,rfl⟩
 (refine oP (CE p q hV) ?_;conv=>whnf)
 refine ah ?_ ?_<;>(intro h2;conv=>whnf)
 ·rw[if_pos (.inr (.inr (by omega)))] at he
  exact⟨he.symm,rfl⟩
 rw[if_neg (fun hh=>by rcases hh with hh|hh|hh;exact hh hs;omega;omega),<-z8 hq0 ht number] at he
 have hpl:=Dr hV
 have wl:=(aK hV).len
 have wT:=(aK hV).thr
 have hsl:=cH hs
 have hvs:=qe p q hp hq hq0 sch hs
 have hpar:=JE p q sch [] hq0 hs (by simp)
 have hsl2:=tA (p:=p) (by omega) sch (ao p q sch) (sch.length+1)
 have hseg:=JF p q sch ((qn p).map (aN (ao p q sch))) hp hq0 hs (by rw[List.length_map];omega)
 have hend:=fun(number:Nat) C hC=>JI p q sch ((qn p).map (aN (ao p q sch))++z6 p sch (ao p q sch) (sch.length+1)) hq0 hs (by rw[List.length_append,List.length_map];omega) number C hC
 have hch:=fun(number:Nat) (hn:number<=1000000)=>Fl p q hV number hn
 rw[List.nil_append] at hpar
 generalize ao p q sch=vars at*
 generalize (qn p).map (aN vars)=PA at*
 generalize z6 p sch vars (sch.length+1)=SA at*
 refine f7 [0,1,2,3,5] (by decide+kernel) ?_
 conv=>whnf
 repeat' first
  |exact True.intro
  |(refine And.intro ?_ ?_<;>conv=>whnf)
  |(refine oP hvs ?_;conv=>whnf)
  |(refine wi ?_;conv=>whnf)
  |fail
 refine ak.call [(200, .old 41),(201, .nil 2)] (cq p vars []) 400 rfl (aa) (aa) hpar ?_
 rintro u M' ⟨rfl,rfl⟩
 refine⟨[(41, .old 200),(202, .old 202)],[(41, .box 168 (HP p vars 202 PA.length)),(202, .row 154 bz bE PA)], .tup [],rfl,(aa),trivial,?_⟩
 conv=>whnf
 refine ak.call [(200, .old 41),(201, .old 202)] (cq p vars PA) 400 rfl (aa) (aa) hseg ?_
 rintro u M' ⟨rfl,rfl⟩
 refine⟨[(41, .old 200),(202, .old 201),(203, .old 202)],[(41, .box 168 (HP p vars 203 (PA++SA).length)),(202, .dead),(203, .row 154 bz bE (PA++SA))], .tup [],rfl,(aa),trivial,?_⟩
 conv=>whnf
 refine ah ?_ ?_<;>(intro hz;conv=>whnf)
 ·rw[if_pos hz] at he
  obtain⟨n,rfl⟩:∃n:Nat,number=n:=⟨number.toNat,by omega⟩
  rw[tN] at he
  have hch1:=hch n (by omega)
  have hC:∃C,(q.kind=1\/C=oe p n)/\ab Tryz.prog 107 [.agg (aO p), .agg (fg q), .int .i64 (n:Int)] (fun u=>u=if q.kind=1 then .nilsl else .sl 0 an C)/\(q.kind=1->C=[]):=by
   by_cases hk:q.kind=1
   ·exact⟨[], .inl hk,by rw[if_pos hk] at hch1⊢;exact hch1,fun _=>rfl⟩
   ·exact⟨oe p n, .inr rfl,hch1,fun h=>absurd h hk⟩
  obtain⟨C,hC1,hC2,hC3⟩:=hC
  have hend1:=hend n C hC1
  generalize (mT p q sch.length (oe p n)).map (aN vars)=EA at*
  by_cases hk:q.kind=1
  ·rw[if_pos hk] at hC2
   obtain rfl:=hC3 hk
   refine f7 [0,1,2,4,5,6] (by decide+kernel) ?_
   conv=>whnf
   repeat' first
    |exact True.intro
    |(refine And.intro ?_ ?_<;>conv=>whnf)
    |(refine oP hC2 ?_;conv=>whnf)
    |(refine ak.call [(200, .old 41),(201, .old 203)] (cq p vars (PA++SA)) 400 rfl (aa) (aa) hend1 ?_;rintro u M' ⟨rfl,rfl⟩;refine⟨[(41, .old 200),(203, .old 201),(204, .old 202)],[(41, .box 168 (HP p vars 204 (PA++SA++EA).length)),(203, .dead),(204, .row 154 bz bE (PA++SA++EA))], .tup [],rfl,(aa),trivial,?_⟩;conv=>whnf)
    |fail
   all_goals
    refine f7 [0,1,2,5,6,7,9] (by decide+kernel) ?_
    conv=>whnf
    repeat' first
     |exact True.intro
     |(refine And.intro ?_ ?_<;>conv=>whnf)
     |exact⟨he.symm,rfl⟩
     |exact he.symm
     |exact rfl
     |fail
  ·rw[if_neg hk] at hC2
   refine f7 [0,1,2,4,5,6] (by decide+kernel) ?_
   conv=>whnf
   repeat' first
    |exact True.intro
    |(refine And.intro ?_ ?_<;>conv=>whnf)
    |(refine oP hC2 ?_;conv=>whnf)
    |(refine ak.call [(200, .old 41),(201, .old 203)] (cq p vars (PA++SA)) 400 rfl (aa) (aa) hend1 ?_;rintro u M' ⟨rfl,rfl⟩;refine⟨[(41, .old 200),(203, .old 201),(204, .old 202)],[(41, .box 168 (HP p vars 204 (PA++SA++EA).length)),(203, .dead),(204, .row 154 bz bE (PA++SA++EA))], .tup [],rfl,(aa),trivial,?_⟩;conv=>whnf)
    |fail
   all_goals
    refine f7 [0,1,2,5,6,7,9] (by decide+kernel) ?_
    conv=>whnf
    repeat' first
     |exact True.intro
     |(refine And.intro ?_ ?_<;>conv=>whnf)
     |exact⟨he.symm,rfl⟩
     |exact he.symm
     |exact rfl
     |fail
 ·rw[if_neg hz,List.append_nil] at he
  refine f7 [0,1,2,5,6,7,9] (by decide+kernel) ?_
  conv=>whnf
  repeat' first
   |exact True.intro
   |(refine And.intro ?_ ?_<;>conv=>whnf)
   |exact⟨he.symm,rfl⟩
   |exact he.symm
   |exact rfl
   |fail
end Go.Proofs.YtnjggjhkfncnlaaGreatDoor
