import Derived.Test.YtekmminpfhacpaaGreatDoorY3
import Derived.Test.YtekmminpfhacpaaGreatDoorX0
set_option linter.unusedVariables false
set_option linter.unusedSimpArgs false
namespace Go.Proofs.YtekmminpfhacpaaGreatDoor
set_option maxRecDepth 100000
set_option maxHeartbeats 16000000
theorem Pj (p:av) (q:aP) (vars:List Vb) (rows:List aV) (hv:vars.length<=1000) (hst:p.states.length<=1000) (hrl:p.rules.length<=1000) (hru:KD p vars) (hsd:∀i,i<p.rules.length->(p.rules.getD i ax).send.length<=60) (hr:rows.length<=2000) (hk:¬q.kind=1) (hb0:q.bad.length=0) (hgo:q.goal.length<=1000)
  (hlin:∀rows l,aj Tryz.prog 119 [.ptr 200 0, .agg (cq l)] (ag.ofL (cU p vars rows)) (fun u M=>u= .agg [.sl 0 al (vars.map (bH l)), .int .i64 l.c]/\M=ag.ofL (cU p vars rows)))
  (seg:Nat) (hsg:seg<=100) (C:List Int) (hC:C.length=p.rules.length) (hg:∀i,i<p.rules.length->(∀g∈(p.rules.getD i ax).guards,(1<=g.coef/\g.coef<=100)/\eY g.bound)/\(p.rules.getD i ax).guards.length<=1000/\0<=C.getD i 0/\C.getD i 0<=(p.rules.getD i ax).guards.length):
  aj Tryz.prog 54 [.ptr 200 0, .agg (eO q), .int .i64 (seg:Int), .sl 0 al C] (ag.ofL (cU p vars rows)) (fun u M=>u= .tup []/\M=ag.ofL (yc p vars (rows++(pX p q seg C).map (aQ vars)))):=by
 have hin5:=fun x hx hk=>hru x hx (.inl hk)
 have hin6:=fun x hx hk=>hru x hx (.inr hk)
 obtain⟨R,hR⟩:∃R:Nat->List aV,R=fun x=>rows++((qV p seg (Bk p q),-1)::(List.range x).map fun i=>Ai p seg (p.rules.getD i ax) (C.getD i 0)).map (aQ vars):=⟨_,rfl⟩
 have hR0:R 0=rows++[aQ vars (qV p seg (oL q.goal p.states.length),-1)]:=by rw[hR];rfl
 have hRn:∀x,R (x+1)=R x++[aQ vars (Ai p seg (p.rules.getD x ax) (C.getD x 0))]:=fun x=>by
  rw[hR]
  dsimp only
  rw[List.range_succ]
  simp only[List.map_append,List.map_cons,List.map_nil,List.append_assoc,List.cons_append]
 have hRl:∀x,x<=p.rules.length->(R x).length<=4000:=fun x hx=>by
  rw[hR];simp only[List.length_append,List.length_map,List.length_cons,List.length_range];omega
 have hend:rows++(pX p q seg C).map (aQ vars)=R C.length:=by
  rw[hR];unfold pX;rw[if_neg hk]
 rw[hend]
 have hol:=G8 q.goal
 have hgat:=Lk p vars rows (by omega) hrl hru seg (oL q.goal p.states.length) (by have:=hol p.states.length;omega) 1 (by omega)
 have hO0:=CV q.goal
 have hOn:=CW q.goal
 have hrow:=fun rows=>DE p vars rows (by omega)
 have haft:=fun rows state=>Iq p vars rows (by omega) hrl hin5 seg state
 have hs5:=fun rows message=>Li p vars rows (by omega) hrl hsd hin5 message (seg+1)
 have hs6:=fun rows message=>Lj p vars rows (by omega) hrl hsd hin6 message (seg+1)
 generalize qV p seg (oL q.goal p.states.length)=AG at*
 clear hR hend hru hin5 hin6
 generalize hO:oL q.goal=O at*
 clear hO
 refine aj.renorm 400 (R:=fun u M=>u= .tup []/\bG qW 400 M (yc p vars (R C.length))) ?_ ?_
 case refine_2=>
  rintro u M ⟨rfl,hM⟩
  exact⟨qW,_, .tup [],rfl,hM,trivial,rfl,rfl⟩
 refine aj.intro ab ac (cU p vars rows) Tryz.func54 rfl (by decide) ?_
 simp only[eJ]
 rw[show Tryz.f54.ntmps=176 from rfl]
 simp only[bX]
 simp only[cF]
 rw[be]
 simp only[gv,aG,List.map_cons,List.map_nil,aZ]
 conv=>whnf
 refine au rfl ?_
 conv=>whnf
 refine aJ.loopF ab ac (fun x:Nat=>x=0) (fun x=>[(8, .int .i64 (x:Int))]) (fun _=>cU p vars rows) (fun x=>x) 0 rfl ?_;conv=>whnf
 refine⟨aH.by_ fg _ 400 rfl (aa) (aa),?_⟩
 rintro x rfl
 conv=>whnf
 refine fI ?_
 conv=>whnf
 refine cX hk ?_
 conv=>whnf
 refine aJ.loopF ab ac (fun x:Nat=>x<=p.states.length) (fun x=>[(9, .row 230 (O x).length 1),(10, .int .i64 (x:Int))]) (fun x=>cU p vars rows++[(230, .row 3 0 al (O x))]) (fun x=>p.states.length-x) 0 (Nat.zero_le _) ?_;conv=>whnf
 refine⟨by rw[hO0];exact aH.by_ (fg++[(230, .nil 1)]) _ 400 rfl (aa) (aa),?_⟩
 rintro x hx
 conv=>whnf
 refine ae ?_ ?_<;>(intro h1;conv=>whnf)
 ·have hO1:=hOn x
  have hl1:=hol x
  repeat' ((first|refine nI ?_|refine aI ?_|refine tI ?_|refine fI ?_|fail);conv=>whnf)
  refine dC (Bu q.goal (x:Int) (by omega)) (fun _=>?_) (fun _=>?_)<;>(conv=>whnf)
  ·rename_i hm
   rw[if_pos hm,List.append_nil] at hO1
   repeat' ((first|refine nI ?_|refine aI ?_|refine tI ?_|refine fI ?_|fail);conv=>whnf)
   refine⟨x+1,?_,by omega,by dsimp only;omega⟩
   dsimp only
   rw[hO1]
   exact aH.by_ (fg++[(230, .old 230)]) _ 400 rfl (aa) (aa)
  ·rename_i hm
   rw[if_neg hm] at hO1
   repeat' ((first|refine nI ?_|refine aI ?_|refine tI ?_|refine fI ?_|fail);conv=>whnf)
   refine bq [(x:Int)] rfl lI ?_
   conv=>whnf
   repeat' ((first|refine nI ?_|refine aI ?_|refine tI ?_|refine fI ?_|fail);conv=>whnf)
   refine⟨x+1,?_,by omega,by dsimp only;omega⟩
   dsimp only
   rw[hO1]
   exact aH.by_ (fg++[(230, .old 72)]) _ 400 rfl (aa) (aa)
 ·obtain rfl:x=p.states.length:=by omega
  apply once (A:=aJ Tryz.prog _ (.loop _) ([.ptr 200 0, .top, .int .i64 (seg:Int), .sl 0 al C]++List.replicate 7 .top++[.int .i64 0]++List.replicate 164 .top) (ag.ofL (yc p vars (R 0))) _)
  case k=>
   intro hs0
   apply c5
   case k=>
    intro o1 o2 o3 o4 o5 o6
    refine fC [0,1,2,3,5,6,7,11,12] (by decide+kernel) ?_
    conv=>whnf
    repeat' first
     |exact True.intro
     |(refine And.intro ?_ ?_<;>conv=>whnf)
     |(refine bU ?_;conv=>whnf)
     |(refine bg (by clear o1 o2 o3 o4 o5 o6;omega) ?_;conv=>whnf)
     |(refine nK trivial (by clear o1 o2 o3 o4 o5 o6;omega) ?_;conv=>whnf)
     |(refine aj.hand 230 rfl ?_;refine aj.call fg (cU p vars rows) 400 rfl (aa) (aa) hgat ?_;rintro u M' ⟨rfl,rfl⟩;refine⟨fg,cU p vars rows, .agg [.sl 0 al (vars.map AG), .int .i64 (-1)],rfl,(aa),(aa),?_⟩;conv=>whnf)
     |(refine bp ar aw [aQ vars (AG,-1)] rfl ?_;conv=>whnf)
     |(refine bq [aQ vars (AG,-1)] rfl (by clear o1 o2 o3 o4 o5 o6;simp only[List.length_cons,List.length_nil];omega) ?_;conv=>whnf)
     |with_reducible assumption
     |fail
   all_goals try first
    |exact True.intro
    |exact True
   all_goals
    exact aJ.sub (by rw[hR0];exact aH.by_ [(200, .old 200),(201, .old 201),(202, .old 83)] _ 400 rfl (aa) (aa)) hs0
  case h=>
   refine aJ.loopF ab ac (fun x:Nat=>x<=C.length) (fun x=>[(11, .int .i64 (x:Int))]) (fun x=>yc p vars (R x)) (fun x=>C.length-x) 0 (Nat.zero_le _) ?_;conv=>whnf
   refine⟨aH.by_ qW _ 400 rfl (aa) (aa),?_⟩
   rintro x hx
   conv=>whnf
   refine ae ?_ ?_<;>(intro h1;conv=>whnf)
   ·have hxl:x<p.rules.length:=by omega
    have hl1:=hRl x (by omega)
    have hR1:=hRn x
    obtain⟨hg1,hg2,hg3,hg4⟩:=hg x hxl
    repeat' ((first|refine nI ?_|refine aI ?_|refine tI ?_|refine fI ?_|fail);conv=>whnf)
    rw[tN]
    generalize p.rules.getD x ax=r at*
    generalize hch:C.getD x 0=ch at*
    conv=>whnf
    refine ae ?_ ?_<;>(intro h2;conv=>whnf)
    ·subst h2
     have am:=pW vars zC (bO p.rules 3 5 r.src seg) 0 0 (-1) 0 (by omega) (by omega) (by omega) (lR (by omega)) (fun v=>by have:=B5 p.rules 3 5 r.src seg v;omega) (by omega) (by omega)
     have ha:=haft (R x) r.src
     have hw:=hrow (R x)
     have e:Ai p seg r 0=(bo zC (-1) (bO p.rules 3 5 r.src seg),0):=by unfold Ai;rw[if_pos rfl]
     rw[e] at hR1
     clear e
     generalize bo zC (-1) (bO p.rules 3 5 r.src seg)=I0 at*
     generalize bO p.rules 3 5 r.src seg=AF at*
     apply c5
     case k=>
      intro o1 o2 o3 o4 o5 o6
      refine fC [0,1,2,3,5,7,8,9,15,16] (by decide+kernel) ?_
      conv=>whnf
      repeat' first
       |exact True.intro
       |(refine And.intro ?_ ?_<;>conv=>whnf)
       |(refine bU ?_;conv=>whnf)
       |(refine bg (by clear o1 o2 o3 o4 o5 o6;omega) ?_;conv=>whnf)
       |(refine nK trivial (by clear o1 o2 o3 o4 o5 o6;omega) ?_;conv=>whnf)
       |(refine aj.call qX (cU p vars (R x)) 400 rfl (aa) (aa) hw ?_;rintro u M' ⟨rfl,rfl⟩;refine⟨qY,Ar 202 p vars (R x), .agg [.sl 0 al (vars.map zC), .int .i64 0],rfl,(aa),(aa),?_⟩;conv=>whnf)
       |(refine aj.call qX (cU p vars (R x)) 400 rfl (aa) (aa) ha ?_;rintro u M' ⟨rfl,rfl⟩;refine⟨qY,Ar 202 p vars (R x), .agg [.sl 0 al (vars.map AF), .int .i64 0],rfl,(aa),(aa),?_⟩;conv=>whnf)
       |(refine oP (am) ?_;conv=>whnf)
       |(refine bp ar aw [aQ vars (I0,0)] rfl ?_;conv=>whnf)
       |(refine bq [aQ vars (I0,0)] rfl (by clear o1 o2 o3 o4 o5 o6;simp only[List.length_cons,List.length_nil];omega) ?_;conv=>whnf)
       |with_reducible assumption
       |fail
     all_goals try first
      |exact True.intro
      |exact True
     all_goals
      repeat' ((first|refine nI ?_|refine aI ?_|refine tI ?_|refine fI ?_|fail);conv=>whnf)
      refine⟨x+1,?_,by omega,by dsimp only;omega⟩
      dsimp only
      rw[hR1]
      exact aH.by_ [(200, .old 200),(201, .old 201),(202, .old 119)] _ 400 rfl (aa) (aa)
    ·refine dI ?_
     conv=>whnf
     repeat' ((first|refine nI ?_|refine aI ?_|refine tI ?_|refine fI ?_|fail);conv=>whnf)
     rw[tN,hch]
     repeat' ((first|refine nI ?_|refine aI ?_|refine tI ?_|refine fI ?_|fail);conv=>whnf)
     have hgm:=hg1 _ (bu (l:=r.guards) (k:=(ch-1).toNat) aM (by omega))
     have e0:=Ai.eq_1 p seg r ch
     rw[if_neg h2] at e0
     rw[e0] at hR1
     clear e0
     dsimp only at hR1
     generalize r.guards.getD (ch-1).toNat aM=g at hR1 hgm⊢
     repeat' ((first|refine nI ?_|refine aI ?_|refine tI ?_|refine fI ?_|fail);conv=>whnf)
     obtain⟨hgc,hgb⟩:=hgm
     have hbc:=hgb.1
     unfold cd at hbc
     have b5:ko 10000 (bJ p.rules 5 g.message (seg+1)):=fun v=>by have:=oE p.rules 5 g.message (seg+1) v;omega
     have b6:ko 10000 (bJ p.rules 6 g.message (seg+1)):=fun v=>by have:=oE p.rules 6 g.message (seg+1) v;omega
     have kf:cd (-g.coef):=by unfold cd;omega
     have c1:ko 1000 (bo (bH g.bound) (-g.coef) (bJ p.rules 5 g.message (seg+1))):=aF (ic (qU hgb) kf (oE _ _ _ _)) (by omega)
     have a5:=pW vars (bH g.bound) (bJ p.rules 5 g.message (seg+1)) g.bound.c 0 (-g.coef) g.bound.c (by omega) (by omega) (by omega) (aF (qU hgb) (by omega)) b5 (by omega) (by omega)
     have a6:=pW vars _ (bJ p.rules 6 g.message (seg+1)) g.bound.c 0 (-g.coef) g.bound.c (by omega) (by omega) (by omega) (aF c1 (by omega)) b6 (by omega) (by omega)
     have hl:=hlin (R x) g.bound
     have h5:=hs5 (R x) g.message
     have h6:=hs6 (R x) g.message
     clear b5 b6 c1
     generalize bo (bH g.bound) (-g.coef) (bJ p.rules 5 g.message (seg+1))=E5 at*
     generalize bo E5 (-g.coef) (bJ p.rules 6 g.message (seg+1))=E6 at*
     generalize bJ p.rules 5 g.message (seg+1)=S5 at*
     generalize bJ p.rules 6 g.message (seg+1)=S6 at*
     generalize bH g.bound=LB at*
     rw[show -g.coef=0-g.coef by omega] at a5 a6
     apply c5
     case k=>
      intro o1 o2 o3 o4 o5 o6
      refine mO [0,1,4,5,7,8,10,12] (by decide+kernel) ?_
      conv=>whnf
      repeat' first
       |exact True.intro
       |(refine And.intro ?_ ?_<;>conv=>whnf)
       |(refine bU ?_;conv=>whnf)
       |(refine bg (by clear o1 o2 o3 o4 o5 o6;omega) ?_;conv=>whnf)
       |(refine nK trivial (by clear o1 o2 o3 o4 o5 o6;omega) ?_;conv=>whnf)
       |(refine aj.call qX (cU p vars (R x)) 400 rfl (aa) (aa) hl ?_;rintro u M' ⟨rfl,rfl⟩;refine⟨qY,Ar 202 p vars (R x), .agg [.sl 0 al (vars.map LB), .int .i64 g.bound.c],rfl,(aa),(aa),?_⟩;conv=>whnf)
       |(refine aj.call qX (cU p vars (R x)) 400 rfl (aa) (aa) h5 ?_;rintro u M' ⟨rfl,rfl⟩;refine⟨qY,Ar 202 p vars (R x), .agg [.sl 0 al (vars.map S5), .int .i64 0],rfl,(aa),(aa),?_⟩;conv=>whnf)
       |(refine oP (a5) ?_;conv=>whnf)
       |with_reducible assumption
       |fail
     all_goals try first
      |exact True.intro
      |exact True
     all_goals
      refine ae ?_ ?_<;>(intro h3;conv=>whnf)
      ·rw[if_pos h3] at hR1
       apply c5
       case k=>
        intro o1 o2 o3 o4 o5 o6
        refine mO [1,2,4,5,7,9] (by decide+kernel) ?_
        conv=>whnf
        repeat' first
         |exact True.intro
         |(refine And.intro ?_ ?_<;>conv=>whnf)
         |(refine bU ?_;conv=>whnf)
         |(refine bg (by clear o1 o2 o3 o4 o5 o6;omega) ?_;conv=>whnf)
         |(refine nK trivial (by clear o1 o2 o3 o4 o5 o6;omega) ?_;conv=>whnf)
         |(refine aj.call qX (cU p vars (R x)) 400 rfl (aa) (aa) h6 ?_;rintro u M' ⟨rfl,rfl⟩;refine⟨qY,Ar 202 p vars (R x), .agg [.sl 0 al (vars.map S6), .int .i64 0],rfl,(aa),(aa),?_⟩;conv=>whnf)
         |(refine oP (a6) ?_;conv=>whnf)
         |with_reducible assumption
         |fail
       all_goals try first
        |exact True.intro
        |exact True
       all_goals
        repeat' ((first|refine nI ?_|refine aI ?_|refine tI ?_|refine fI ?_|fail);conv=>whnf)
        apply c5
        case k=>
         intro o1 o2 o3 o4 o5 o6
         refine fC [0,1,2,3,8,9] (by decide+kernel) ?_
         conv=>whnf
         repeat' first
          |exact True.intro
          |(refine And.intro ?_ ?_<;>conv=>whnf)
          |(refine bU ?_;conv=>whnf)
          |(refine bg (by clear o1 o2 o3 o4 o5 o6;omega) ?_;conv=>whnf)
          |(refine nK trivial (by clear o1 o2 o3 o4 o5 o6;omega) ?_;conv=>whnf)
          |(refine bp ar aw [aQ vars (E6,g.bound.c-1)] rfl ?_;conv=>whnf)
          |(refine bq [aQ vars (E6,g.bound.c-1)] rfl (by clear o1 o2 o3 o4 o5 o6;simp only[List.length_cons,List.length_nil];omega) ?_;conv=>whnf)
          |with_reducible assumption
          |fail
        all_goals try first
         |exact True.intro
         |exact True
        all_goals
         repeat' ((first|refine nI ?_|refine aI ?_|refine tI ?_|refine fI ?_|fail);conv=>whnf)
         refine⟨x+1,?_,by omega,by dsimp only;omega⟩
         dsimp only
         rw[hR1]
         exact aH.by_ [(200, .old 200),(201, .old 201),(202, .old 173)] _ 400 rfl (aa) (aa)
      ·rw[if_neg h3] at hR1
       repeat' ((first|refine nI ?_|refine aI ?_|refine tI ?_|refine fI ?_|fail);conv=>whnf)
       apply c5
       case k=>
        intro o1 o2 o3 o4 o5 o6
        refine fC [0,1,2,3,8,9] (by decide+kernel) ?_
        conv=>whnf
        repeat' first
         |exact True.intro
         |(refine And.intro ?_ ?_<;>conv=>whnf)
         |(refine bU ?_;conv=>whnf)
         |(refine bg (by clear o1 o2 o3 o4 o5 o6;omega) ?_;conv=>whnf)
         |(refine nK trivial (by clear o1 o2 o3 o4 o5 o6;omega) ?_;conv=>whnf)
         |(refine bp ar aw [aQ vars (E5,g.bound.c-1)] rfl ?_;conv=>whnf)
         |(refine bq [aQ vars (E5,g.bound.c-1)] rfl (by clear o1 o2 o3 o4 o5 o6;simp only[List.length_cons,List.length_nil];omega) ?_;conv=>whnf)
         |with_reducible assumption
         |fail
       all_goals try first
        |exact True.intro
        |exact True
       all_goals
        repeat' ((first|refine nI ?_|refine aI ?_|refine tI ?_|refine fI ?_|fail);conv=>whnf)
        refine⟨x+1,?_,by omega,by dsimp only;omega⟩
        dsimp only
        rw[hR1]
        exact aH.by_ [(200, .old 200),(201, .old 201),(202, .old 173)] _ 400 rfl (aa) (aa)
   ·obtain rfl:x=C.length:=by omega
    exact⟨rfl,(aa)⟩
theorem Iy {p:av} (h:aX p=0):(uB p).length<=13:=by
 have wl:=(aN h).len
 have hpl:(i9 p).length<=9:=by unfold i9;rw[List.length_append,List.length_append];split<;>simp<;>omega
 unfold uB
 rw[List.length_append,List.length_append,List.length_map]
 split<;>simp<;>omega
theorem Pk (p:av) (q:aP) (sch:List Int) (rows:List aV) (hq:bD p q=0) (hs:dS (ay p.rules).length sch) (hr:rows.length<=2000) (number:Nat) (C:List Int) (hC:q.kind=1\/C=rk p number):
  aj Tryz.prog 54 [.ptr 200 0, .agg (eO q), .int .i64 (sch.length:Int), .sl 0 al C] (ag.ofL (cU p (az p q sch) rows)) (fun u M=>u= .tup []/\M=ag.ofL (yc p (az p q sch) (rows++(pX p q sch.length (rk p number)).map (aQ (az p q sch))))):=by
 have vq:=aW hq
 have hV:=vq.vld
 have w:=aN hV
 have wl:=w.len
 have wT:=w.thr
 have hsl:=cu hs
 have hv:=iE hq hs
 have hru:=uA (sch:=sch) hq
 by_cases hk:q.kind=1
 ·have e:pX p q sch.length (rk p number)=pX p q sch.length C:=by unfold pX;rw[if_pos hk,if_pos hk]
  rw[e]
  refine Pi p q (az p q sch) rows (by omega) (by omega) hru hr hk (by have:=(vq.bad hk).1;omega) (fun i hi=>?_) sch.length C
  have c:=ni vq hk hi
  have:=bN c.1
  omega
 ·obtain rfl:C=rk p number:=by rcases hC with h|h;exact absurd h hk;exact h
  have hk2:q.kind=2:=by rcases vq.kind with h|h;exact absurd h hk;exact h
  refine Pj p q (az p q sch) rows (by omega) (by omega) (by omega) hru (pC hV) hr hk (by have:=vq.shp;omega) (by have:=bN (vq.goal hk2).1;omega) (fun rows l=>DF p q sch rows hq hs l) sch.length (by omega) (rk p number) (lu p number) (fun i hi=>?_)
  refine⟨fun g hg=>(ly (w.rul i hi) hg).2,by have:=ew hV i hi;omega,?_⟩
  rw[rX hi]
  have:=Bj p.rules number i
  omega
theorem B7 (p:av) (q:aP) (hp:lO p) (hq:rS q) (sch:List Int) (hl:sch.length<=140737488355328) (number:Int):ah Tryz.prog 14 [.agg (cV p), .agg (eO q), .sl 0 al sch, .int .i64 number] (fun u=>u=xt p q sch number):=by
 have he:=xt.eq_1 p q sch number
 refine ah.intro ab ac Tryz.func14 rfl (by decide) ?_;(conv=>whnf)
 refine au rfl ?_
 conv=>whnf
 refine au rfl ?_
 conv=>whnf
 (refine oP (Bv p q hp hq) ?_;conv=>whnf)
 refine ae ?_ ?_<;>(intro h;conv=>whnf)
 ·rw[if_pos h] at he
  exact⟨he.symm,rfl⟩
 have h0:dq p q=0:=Classical.not_not.1 h
 have hq0:=du h0
 have hV:=(aW hq0).vld
 have hcs:=om h0
 have ht:=(CQ h0).1
 rw[if_neg (by omega)] at he
 refine dC (Bw p hp hV sch hl) (fun _=>?_) (fun _=>?_)<;>(conv=>whnf)
 rotate_left
 ·rename_i hs
  rw[if_pos (.inl hs)] at he
  exact⟨he.symm,rfl⟩
 rename_i hs
 refine ae ?_ ?_<;>(intro h1;conv=>whnf)
 ·rw[if_pos (.inr (.inl h1))] at he
  exact⟨he.symm,rfl⟩
 (refine oP (xl p q hV) ?_;conv=>whnf)
 refine ae ?_ ?_<;>(intro h2;conv=>whnf)
 ·rw[if_pos (.inr (.inr (by omega)))] at he
  exact⟨he.symm,rfl⟩
 rw[if_neg (fun hh=>by rcases hh with hh|hh|hh;exact hh hs;omega;omega),<-Fd hq0 ht number] at he
 have hpl:=Iy hV
 have wl:=(aN hV).len
 have wT:=(aN hV).thr
 have hsl:=cu hs
 have hvs:=Bz p q hp hq hq0 sch hs
 have hpar:=Pg p q sch [] hq0 hs (by simp)
 have hsl2:=x5 (p:=p) (by omega) sch (az p q sch) (sch.length+1)
 have hseg:=Ph p q sch ((uB p).map (aQ (az p q sch))) hp hq0 hs (by rw[List.length_map];omega)
 have hend:=fun(number:Nat) C hC=>Pk p q sch ((uB p).map (aQ (az p q sch))++Fb p sch (az p q sch) (sch.length+1)) hq0 hs (by rw[List.length_append,List.length_map];omega) number C hC
 have hch:=fun(number:Nat) (hn:number<=1000000)=>J1 p q hV number hn
 rw[List.nil_append] at hpar
 generalize az p q sch=vars at*
 generalize (uB p).map (aQ vars)=PA at*
 generalize Fb p sch vars (sch.length+1)=SA at*
 refine mO [0,1,2,3,5] (by decide+kernel) ?_
 conv=>whnf
 repeat' first
  |exact True.intro
  |(refine And.intro ?_ ?_<;>conv=>whnf)
  |(refine oP hvs ?_;conv=>whnf)
  |(refine DM ?_;conv=>whnf)
  |fail
 refine aj.call [(200, .old 41),(201, .nil 2)] (cU p vars []) 400 rfl (aa) (aa) hpar ?_
 rintro u M' ⟨rfl,rfl⟩
 refine⟨[(41, .old 200),(202, .old 202)],[(41, .box 127 (Nu p vars 202 PA.length)),(202, .row 161 ar aw PA)], .tup [],rfl,(aa),trivial,?_⟩
 conv=>whnf
 refine aj.call [(200, .old 41),(201, .old 202)] (cU p vars PA) 400 rfl (aa) (aa) hseg ?_
 rintro u M' ⟨rfl,rfl⟩
 refine⟨[(41, .old 200),(202, .old 201),(203, .old 202)],[(41, .box 127 (Nu p vars 203 (PA++SA).length)),(202, .dead),(203, .row 161 ar aw (PA++SA))], .tup [],rfl,(aa),trivial,?_⟩
 conv=>whnf
 refine ae ?_ ?_<;>(intro hz;conv=>whnf)
 ·rw[if_pos hz] at he
  obtain⟨n,rfl⟩:∃n:Nat,number=n:=⟨number.toNat,by omega⟩
  rw[tN] at he
  have hch1:=hch n (by omega)
  have hC:∃C,(q.kind=1\/C=rk p n)/\ah Tryz.prog 55 [.agg (cV p), .agg (eO q), .int .i64 (n:Int)] (fun u=>u=if q.kind=1 then .nilsl else .sl 0 al C)/\(q.kind=1->C=[]):=by
   by_cases hk:q.kind=1
   ·exact⟨[], .inl hk,by rw[if_pos hk] at hch1⊢;exact hch1,fun _=>rfl⟩
   ·exact⟨rk p n, .inr rfl,hch1,fun h=>absurd h hk⟩
  obtain⟨C,hC1,hC2,hC3⟩:=hC
  have hend1:=hend n C hC1
  generalize (pX p q sch.length (rk p n)).map (aQ vars)=EA at*
  by_cases hk:q.kind=1
  ·rw[if_pos hk] at hC2
   obtain rfl:=hC3 hk
   refine mO [0,1,2,4,5,6] (by decide+kernel) ?_
   conv=>whnf
   repeat' first
    |exact True.intro
    |(refine And.intro ?_ ?_<;>conv=>whnf)
    |(refine oP hC2 ?_;conv=>whnf)
    |(refine aj.call [(200, .old 41),(201, .old 203)] (cU p vars (PA++SA)) 400 rfl (aa) (aa) hend1 ?_;rintro u M' ⟨rfl,rfl⟩;refine⟨[(41, .old 200),(203, .old 201),(204, .old 202)],[(41, .box 127 (Nu p vars 204 (PA++SA++EA).length)),(203, .dead),(204, .row 161 ar aw (PA++SA++EA))], .tup [],rfl,(aa),trivial,?_⟩;conv=>whnf)
    |fail
   all_goals
    refine mO [0,1,2,5,6,7,9] (by decide+kernel) ?_
    conv=>whnf
    repeat' first
     |exact True.intro
     |(refine And.intro ?_ ?_<;>conv=>whnf)
     |exact⟨he.symm,rfl⟩
     |exact he.symm
     |exact rfl
     |fail
  ·rw[if_neg hk] at hC2
   refine mO [0,1,2,4,5,6] (by decide+kernel) ?_
   conv=>whnf
   repeat' first
    |exact True.intro
    |(refine And.intro ?_ ?_<;>conv=>whnf)
    |(refine oP hC2 ?_;conv=>whnf)
    |(refine aj.call [(200, .old 41),(201, .old 203)] (cU p vars (PA++SA)) 400 rfl (aa) (aa) hend1 ?_;rintro u M' ⟨rfl,rfl⟩;refine⟨[(41, .old 200),(203, .old 201),(204, .old 202)],[(41, .box 127 (Nu p vars 204 (PA++SA++EA).length)),(203, .dead),(204, .row 161 ar aw (PA++SA++EA))], .tup [],rfl,(aa),trivial,?_⟩;conv=>whnf)
    |fail
   all_goals
    refine mO [0,1,2,5,6,7,9] (by decide+kernel) ?_
    conv=>whnf
    repeat' first
     |exact True.intro
     |(refine And.intro ?_ ?_<;>conv=>whnf)
     |exact⟨he.symm,rfl⟩
     |exact he.symm
     |exact rfl
     |fail
 ·rw[if_neg hz,List.append_nil] at he
  refine mO [0,1,2,5,6,7,9] (by decide+kernel) ?_
  conv=>whnf
  repeat' first
   |exact True.intro
   |(refine And.intro ?_ ?_<;>conv=>whnf)
   |exact⟨he.symm,rfl⟩
   |exact he.symm
   |exact rfl
   |fail
end Go.Proofs.YtekmminpfhacpaaGreatDoor
