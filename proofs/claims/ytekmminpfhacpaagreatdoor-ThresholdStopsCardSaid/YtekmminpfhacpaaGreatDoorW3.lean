import Derived.Test.YtekmminpfhacpaaGreatDoorW2
set_option linter.unusedVariables false
set_option linter.unusedSimpArgs false
namespace Go.Proofs.YtekmminpfhacpaaGreatDoor
set_option maxRecDepth 100000
set_option maxHeartbeats 16000000
def Dj:cR:=[(200, .old 200),(202, .old 201),(203, .old 202),(210, .old 210),(211, .old 211),(212, .old 212),(213, .old 213),(214, .old 214),(215, .old 215),(216, .old 216)]
def IE:cR:=[(200, .old 200),(201, .old 201),(202, .old 203),(210, .old 210),(211, .old 211),(212, .old 212),(213, .old 213),(214, .old 214),(215, .old 215),(216, .old 216)]
noncomputable abbrev HG (p:an) (q:aE) (sch:List Int) (vars:List Vb) (rows:List eN):List (Nat×bP):=
 [(200, .box 156 (En p q sch vars.length 203 rows.length)),(202, .dead),(203, .row 161 eZ d6 rows),(210,eQ vars 0),(211,eQ vars 1),(212,eQ vars 2),(213,eQ vars 3),(214,eQ vars 4),(215,eQ vars 5),(216,eQ vars 6)]
def oL (goal:List Int) (x:Nat):List Int:=((List.range x).map fun x:Nat=>(x:Int)).filter fun x=>decide (x∉goal)
theorem Dk (goal:List Int):oL goal 0=[]:=rfl
theorem Dl (goal:List Int) (x:Nat):oL goal (x+1)=oL goal x++if(x:Int)∈goal then[] else[(x:Int)]:=by
 unfold oL
 rw[List.range_succ,List.map_append,List.filter_append]
 congr 1
 by_cases h:(x:Int)∈goal<;>simp[h]
theorem FG (goal:List Int) (x:Nat):(oL goal x).length<=x:=by
 unfold oL
 have:=List.length_filter_le (fun x=>decide (x∉goal)) ((List.range x).map fun x:Nat=>(x:Int))
 simpa using this
theorem H9 (p:an) (q:aE) (sch:List Int) (vars:List Vb) (rows:List eN) (hn:vars.Nodup) (hv:vars.length<=1000000) (hr:rows.length<=100000) (hst:p.states.length<=1000) (hrl:p.rules.length<=1000) (hsd:∀i,i<p.rules.length->(p.rules.getD i aq).send.length<=1000000) (hsl:sch.length<=9)
  (hV:aw p=0) (hbad:q.kind=1->q.bad.length<=1000/\∀i,i<q.bad.length->(q.bad.getD i ca).states.length<=10000/\0<=(q.bad.getD i ca).least/\(q.bad.getD i ca).least<=1000) (hgo:q.goal.length<=1000000)
  (hg:∀i,i<p.rules.length->(∀g∈(p.rules.getD i aq).guards,(1<=g.coef/\g.coef<=100)/\eD g.bound)/\(p.rules.getD i aq).guards.length<=1000) (number:Nat) (hnu:number<=1000000):
  am Tryz.prog 110 [.ptr 200 0, .int .i64 (number:Int)] (aj.ofL (dG p q sch vars rows))
   (fun u M=>u= .tup []/\M=aj.ofL (lG p q sch vars (rows++(rI p q sch.length number).map (cL vars)))):=by
 refine am.renorm 400 (R:=fun u M=>u= .tup []/\dc rP 400 M (lG p q sch vars (rows++(rI p q sch.length number).map (cL vars)))) ?_ ?_
 case refine_2=>
  rintro u M ⟨rfl,hM⟩
  exact⟨rP,_, .tup [],rfl,hM,trivial,rfl,rfl⟩
 have hch:=Db p q hV number hnu
 by_cases hk:q.kind=1
 ·obtain⟨hbl,hbad⟩:=hbad hk
  obtain⟨R,hR⟩:∃R:Nat->List eN,R=fun x=>rows++(q.bad.take x).map fun c=>cL vars (tJ p sch.length c.states c.least):=⟨_,rfl⟩
  have hR0:R 0=rows:=by rw[hR];simp
  have hRn:∀x,x<q.bad.length->R (x+1)=R x++[cL vars (tJ p sch.length (q.bad.getD (x:Int).toNat ca).states (q.bad.getD (x:Int).toNat ca).least)]:=fun x hx=>by
   rw[hR,tN]
   dsimp only
   rw[List.take_succ_eq_append_getElem hx,List.map_append,<-List.append_assoc,au ca hx]
   rfl
  have hRl:∀x,x<=q.bad.length->(R x).length<=102000:=fun x hx=>by
   rw[hR];simp only[List.length_append,List.length_map,List.length_take];omega
  have hend:rows++(rI p q sch.length number).map (cL vars)=R q.bad.length:=by
   rw[hR];dsimp only;rw[List.take_length];unfold rI;rw[if_pos hk,List.map_map];rfl
  rw[hend]
  have ha:=fun x (hx:x<q.bad.length)=>Hb p q sch vars (R x) hn hv (by have:=hRl x (by omega);omega) hrl (by omega) (q.bad.getD (x:Int).toNat ca).states (by rw[tN];exact(hbad x hx).1) (q.bad.getD (x:Int).toNat ca).least (by rw[tN];exact(hbad x hx).2)
  have ha:∀x,x<q.bad.length->am Tryz.prog 198 [.ptr 200 0, .sl 0 ao (q.bad.getD (x:Int).toNat ca).states, .int .i64 (q.bad.getD (x:Int).toNat ca).least] (aj.ofL (dG p q sch vars (R x)))
    (fun u M=>u= .tup []/\M=aj.ofL (lG p q sch vars (R (x+1)))):=fun x hx=>by rw[hRn x hx];exact ha x hx
  clear hR hRn hend
  refine am.intro ac ae (dG p q sch vars rows) Tryz.func110 rfl (by decide) ?_
  conv=>whnf
  refine eI hk ?_
  conv=>whnf
  refine aF.loopF ac ae (fun x:Nat=>x<=q.bad.length) (fun x=>[(28, .int .i64 (x:Int))]) (fun x=>lG p q sch vars (R x)) (fun x=>q.bad.length-x) 0 (Nat.zero_le _) ?_;conv=>whnf
  refine⟨by rw[hR0];exact aR.by_ HZ _ 400 rfl (aa) (aa),?_⟩
  rintro x hx
  conv=>whnf
  refine ag ?_ ?_<;>(intro h1;conv=>whnf)
  ·have ha1:=ha x (by omega)
   repeat' ((first|refine nI ?_|refine aI ?_|refine tI ?_|refine fI ?_|fail);conv=>whnf)
   refine am.call A9 (dG p q sch vars (R x)) 400 rfl (aa) (aa) ha1 ?_
   rintro u M' ⟨rfl,rfl⟩
   refine⟨Dj,HG p q sch vars (R (x+1)), .tup [],rfl,(aa),trivial,?_⟩
   conv=>whnf
   repeat' ((first|refine nI ?_|refine aI ?_|refine tI ?_|refine fI ?_|fail);conv=>whnf)
   refine⟨x+1,?_,by omega,by dsimp only;omega⟩
   exact aR.by_ IE _ 400 rfl (aa) (aa)
  ·obtain rfl:x=q.bad.length:=by omega
   exact⟨rfl,(aa)⟩
 ·rw[if_neg hk] at hch
  obtain⟨R,hR⟩:∃R:Nat->List eN,R=fun x=>rows++(tJ p sch.length (G2 p q) 1::(List.range x).map fun i=>tK p sch.length (p.rules.getD i aq) ((ve p number).getD i 0)).map (cL vars):=⟨_,rfl⟩
  have hR0:R 0=rows++[cL vars (tJ p sch.length (oL q.goal p.states.length) 1)]:=by rw[hR];rfl
  have hRn:∀x,R (x+1)=R x++[cL vars (tK p sch.length (p.rules.getD x aq) ((ve p number).getD (x:Int).toNat 0))]:=fun x=>by
   rw[hR,tN]
   dsimp only
   rw[List.range_succ]
   simp only[List.map_append,List.map_cons,List.map_nil,List.append_assoc,List.cons_append]
  have hRl:∀x,x<=p.rules.length->(R x).length<=102000:=fun x hx=>by
   rw[hR];simp only[List.length_append,List.length_map,List.length_cons,List.length_range];omega
  have hend:rows++(rI p q sch.length number).map (cL vars)=R p.rules.length:=by
   rw[hR];unfold rI;rw[if_neg hk]
  rw[hend]
  have hi:∀x,x<p.rules.length->am Tryz.prog 200 [.ptr 200 0, .int .i64 (x:Int), .int .i64 ((ve p number).getD (x:Int).toNat 0)] (aj.ofL (dG p q sch vars (R x)))
    (fun u M=>u= .tup []/\M=aj.ofL (lG p q sch vars (R (x+1)))):=fun x hx=>by
   rw[hRn x]
   have hc:(ve p number).getD (x:Int).toNat 0=(Ah p.rules number x:Int):=by rw[tN];exact wB hx
   have:=Fa p.rules number x
   exact H8 p q sch vars (R x) hn hv (by have:=hRl x (by omega);omega) hrl hsd hsl x hx (hg x hx).1 (hg x hx).2 _ (by rw[hc];omega)
  have hol:=FG q.goal
  have ha:=Hb p q sch vars rows hn hv (by omega) hrl (by omega) (oL q.goal p.states.length) (by have:=hol p.states.length;omega) 1 (by omega)
  rw[<-hR0] at ha
  have hO0:=Dk q.goal
  have hOn:=Dl q.goal
  have hcl:=lC p number
  clear hR hR0 hRn hend
  generalize hO:oL q.goal=O at*
  generalize ve p number=C at*
  clear hO
  refine am.intro ac ae (dG p q sch vars rows) Tryz.func110 rfl (by decide) ?_
  conv=>whnf
  refine iA hk ?_
  conv=>whnf
  refine aF.loopF ac ae (fun x:Nat=>x<=p.states.length) (fun x=>[(6, .row 230 (O x).length 1),(48, .int .i64 (x:Int))]) (fun x=>dG p q sch vars rows++[(230, .row 3 0 ao (O x))]) (fun x=>p.states.length-x) 0 (Nat.zero_le _) ?_;conv=>whnf
  refine⟨by rw[hO0];exact aR.by_ (eU++[(230, .nil 1)]) _ 400 rfl (aa) (aa),?_⟩
  rintro x hx
  conv=>whnf
  refine ag ?_ ?_<;>(intro h1;conv=>whnf)
  ·have hO1:=hOn x
   have hl1:=hol x
   repeat' ((first|refine nI ?_|refine aI ?_|refine tI ?_|refine fI ?_|fail);conv=>whnf)
   refine dC (bo q.goal (x:Int) (by omega)) (fun _=>?_) (fun _=>?_)<;>(conv=>whnf)
   ·rename_i hm
    rw[if_pos hm,List.append_nil] at hO1
    repeat' ((first|refine nI ?_|refine aI ?_|refine tI ?_|refine fI ?_|fail);conv=>whnf)
    refine⟨x+1,?_,by omega,by dsimp only;omega⟩
    dsimp only
    rw[hO1]
    exact aR.by_ (eU++[(230, .old 230)]) _ 400 rfl (aa) (aa)
   ·rename_i hm
    rw[if_neg hm] at hO1
    repeat' ((first|refine nI ?_|refine aI ?_|refine tI ?_|refine fI ?_|fail);conv=>whnf)
    refine bQ [(x:Int)] rfl lI ?_
    conv=>whnf
    repeat' ((first|refine nI ?_|refine aI ?_|refine tI ?_|refine fI ?_|fail);conv=>whnf)
    refine⟨x+1,?_,by omega,by dsimp only;omega⟩
    dsimp only
    rw[hO1]
    exact aR.by_ (eU++[(230, .old 65)]) _ 400 rfl (aa) (aa)
  ·obtain rfl:x=p.states.length:=by omega
   repeat' ((first|refine nI ?_|refine aI ?_|refine tI ?_|refine fI ?_|fail);conv=>whnf)
   refine am.hand 230 rfl ?_
   conv=>whnf
   refine am.call eU (dG p q sch vars rows) 400 rfl (aa) (aa) ha ?_
   rintro u M' ⟨rfl,rfl⟩
   refine⟨rP,lG p q sch vars (R 0), .tup [],rfl,(aa),trivial,?_⟩
   conv=>whnf
   repeat' ((first|refine nI ?_|refine aI ?_|refine tI ?_|refine fI ?_|fail);conv=>whnf)
   (refine oP (hch) ?_;conv=>whnf)
   refine aF.loopF ac ae (fun x:Nat=>x<=p.rules.length) (fun x=>[(6, .top),(68, .top),(77, .int .i64 (x:Int))]) (fun x=>lG p q sch vars (R x)) (fun x=>p.rules.length-x) 0 (Nat.zero_le _) ?_;conv=>whnf
   refine⟨aR.by_ rP _ 400 rfl (aa) (aa),?_⟩
   rintro x hx
   conv=>whnf
   refine ag ?_ ?_<;>(intro h1;conv=>whnf)
   ·have hi1:=hi x (by omega)
    repeat' ((first|refine nI ?_|refine aI ?_|refine tI ?_|refine fI ?_|fail);conv=>whnf)
    refine am.call A9 (dG p q sch vars (R x)) 400 rfl (aa) (aa) hi1 ?_
    rintro u M' ⟨rfl,rfl⟩
    refine⟨Dj,HG p q sch vars (R (x+1)), .tup [],rfl,(aa),trivial,?_⟩
    conv=>whnf
    repeat' ((first|refine nI ?_|refine aI ?_|refine tI ?_|refine fI ?_|fail);conv=>whnf)
    refine⟨x+1,?_,by omega,by dsimp only;omega⟩
    exact aR.by_ IE _ 400 rfl (aa) (aa)
   ·obtain rfl:x=p.rules.length:=by omega
    exact⟨rfl,(aa)⟩
def IZ (p:an) (q:aE) (sch:List Int):Nat->List (Nat×bP)
 |0=>[(12, .box 156 [.pd (du p q), .sl 0 ao sch, .int .i64 0, .val (.map none), .val (.map none), .val (.map none), .val (.map none), .val (.map none), .val (.map none), .val (.map none), .nilsl])]
 |1=>[(12, .box 156 [.pd (du p q), .sl 0 ao sch, .int .i64 0, .mp 210, .val (.map none), .val (.map none), .val (.map none), .val (.map none), .val (.map none), .val (.map none), .nilsl]),(210, .map fl (Value.int .i64) (fun _=>none))]
 |2=>[(12, .box 156 [.pd (du p q), .sl 0 ao sch, .int .i64 0, .mp 210, .mp 211, .val (.map none), .val (.map none), .val (.map none), .val (.map none), .val (.map none), .nilsl]),(210, .map fl (Value.int .i64) (fun _=>none)),(211, .map fl (Value.int .i64) (fun _=>none))]
 |3=>[(12, .box 156 [.pd (du p q), .sl 0 ao sch, .int .i64 0, .mp 210, .mp 211, .mp 212, .val (.map none), .val (.map none), .val (.map none), .val (.map none), .nilsl]),(210, .map fl (Value.int .i64) (fun _=>none)),(211, .map fl (Value.int .i64) (fun _=>none)),(212, .map fl (Value.int .i64) (fun _=>none))]
 |4=>[(12, .box 156 [.pd (du p q), .sl 0 ao sch, .int .i64 0, .mp 210, .mp 211, .mp 212, .mp 213, .val (.map none), .val (.map none), .val (.map none), .nilsl]),(210, .map fl (Value.int .i64) (fun _=>none)),(211, .map fl (Value.int .i64) (fun _=>none)),(212, .map fl (Value.int .i64) (fun _=>none)),(213, .map fl (Value.int .i64) (fun _=>none))]
 |5=>[(12, .box 156 [.pd (du p q), .sl 0 ao sch, .int .i64 0, .mp 210, .mp 211, .mp 212, .mp 213, .mp 214, .val (.map none), .val (.map none), .nilsl]),(210, .map fl (Value.int .i64) (fun _=>none)),(211, .map fl (Value.int .i64) (fun _=>none)),(212, .map fl (Value.int .i64) (fun _=>none)),(213, .map fl (Value.int .i64) (fun _=>none)),(214, .map fl (Value.int .i64) (fun _=>none))]
 |6=>[(12, .box 156 [.pd (du p q), .sl 0 ao sch, .int .i64 0, .mp 210, .mp 211, .mp 212, .mp 213, .mp 214, .mp 215, .val (.map none), .nilsl]),(210, .map fl (Value.int .i64) (fun _=>none)),(211, .map fl (Value.int .i64) (fun _=>none)),(212, .map fl (Value.int .i64) (fun _=>none)),(213, .map fl (Value.int .i64) (fun _=>none)),(214, .map fl (Value.int .i64) (fun _=>none)),(215, .map fl (Value.int .i64) (fun _=>none))]
 |7=>[(12, .box 156 [.pd (du p q), .sl 0 ao sch, .int .i64 0, .mp 210, .mp 211, .mp 212, .mp 213, .mp 214, .mp 215, .mp 216, .nilsl]),(210, .map fl (Value.int .i64) (fun _=>none)),(211, .map fl (Value.int .i64) (fun _=>none)),(212, .map fl (Value.int .i64) (fun _=>none)),(213, .map fl (Value.int .i64) (fun _=>none)),(214, .map fl (Value.int .i64) (fun _=>none)),(215, .map fl (Value.int .i64) (fun _=>none)),(216, .map fl (Value.int .i64) (fun _=>none))]
 |_=>[]
noncomputable abbrev Eo (p:an) (q:aE) (sch:List Int) (vars:List Vb) (n:Nat):List (Nat×bP):=
 [(12, .box 156 [.pd (du p q), .sl 0 ao sch, .int .i64 n, .mp 210, .mp 211, .mp 212, .mp 213, .mp 214, .mp 215, .mp 216, .nilsl]),(210, .map fl (Value.int .i64) (mz vars 0 n)),(211, .map fl (Value.int .i64) (mz vars 1 n)),(212, .map fl (Value.int .i64) (mz vars 2 n)),(213, .map fl (Value.int .i64) (mz vars 3 n)),(214, .map fl (Value.int .i64) (mz vars 4 n)),(215, .map fl (Value.int .i64) (mz vars 5 n)),(216, .map fl (Value.int .i64) (mz vars 6 n))]
theorem FH {vars:List Vb} {n:Nat} {k:Int} (h:(vars.getD n cw).kind≠k):mz vars k (n+1)=mz vars k n:=by
 rw[mz,if_neg h]
theorem FI {vars:List Vb} {n:Nat} {k:Int} (h:(vars.getD n cw).kind=k):mz vars k (n+1)=nG (mz vars k n) ((vars.getD n cw).seg,(vars.getD n cw).idx) (n:Int):=by
 rw[mz,if_pos h]
theorem H' (p:an) (q:aE) (sch:List Int) (hq:aU p q=0) (hs:eM (ar p.rules).length sch) (hk:∀n,n<(bI p q sch).length->0<=((bI p q sch).getD n cw).kind/\((bI p q sch).getD n cw).kind<7):
  am Tryz.prog 83 [.pd (du p q), .sl 0 ao sch] (aj.ofL [])
   (fun u M=>u= .ptr 200 0/\M=aj.ofL (dG p q sch (bI p q sch) [])):=by
 have hvl:=oJ hq hs
 have hvf:=oT p q hq sch hs
 have hsl:=dF hs
 generalize bI p q sch=vars at*
 refine am.renorm 400 (R:=fun u M=>u= .ptr 12 0/\dc [(200, .old 12),(201, .nil 2),(210, .old 210),(211, .old 211),(212, .old 212),(213, .old 213),(214, .old 214),(215, .old 215),(216, .old 216)] 400 M (dG p q sch vars [])) ?_ ?_
 case refine_2=>
  rintro u M ⟨rfl,hM⟩
  exact⟨[(200, .old 12),(201, .nil 2),(210, .old 210),(211, .old 211),(212, .old 212),(213, .old 213),(214, .old 214),(215, .old 215),(216, .old 216)],_, .ptr 200 0,rfl,hM,(aa),rfl,rfl⟩
 refine am.intro ac ae [] Tryz.func83 rfl (by decide) ?_
 conv=>whnf
 refine xd ?_
 conv=>whnf
 refine aF.loopF ac ae (fun i:Nat=>i<=7) (fun i=>[(13, .int .i64 (i:Int))]) (fun i=>IZ p q sch i) (fun i=>7-i) 0 (Nat.zero_le _) ?_;conv=>whnf
 refine⟨aR.by_ [(12, .old 12)] _ 400 rfl (aa) (aa),?_⟩
 rintro i hi
 obtain rfl|rfl|rfl|rfl|rfl|rfl|rfl|rfl:i=0\/i=1\/i=2\/i=3\/i=4\/i=5\/i=6\/i=7:=by omega
 ·conv=>whnf
  refine tI ?_
  conv=>whnf
  refine sF fl (Value.int .i64) ?_
  conv=>whnf
  repeat' ((first|refine nI ?_|refine aI ?_|refine tI ?_|refine fI ?_|fail);conv=>whnf)
  refine⟨1,?_,by omega,by dsimp only;omega⟩
  exact aR.by_ [(12, .old 12),(210, .old 18)] _ 400 rfl (aa) (aa)
 ·conv=>whnf
  refine tI ?_
  conv=>whnf
  refine sF fl (Value.int .i64) ?_
  conv=>whnf
  repeat' ((first|refine nI ?_|refine aI ?_|refine tI ?_|refine fI ?_|fail);conv=>whnf)
  refine⟨2,?_,by omega,by dsimp only;omega⟩
  exact aR.by_ [(12, .old 12),(210, .old 210),(211, .old 18)] _ 400 rfl (aa) (aa)
 ·conv=>whnf
  refine tI ?_
  conv=>whnf
  refine sF fl (Value.int .i64) ?_
  conv=>whnf
  repeat' ((first|refine nI ?_|refine aI ?_|refine tI ?_|refine fI ?_|fail);conv=>whnf)
  refine⟨3,?_,by omega,by dsimp only;omega⟩
  exact aR.by_ [(12, .old 12),(210, .old 210),(211, .old 211),(212, .old 18)] _ 400 rfl (aa) (aa)
 ·conv=>whnf
  refine tI ?_
  conv=>whnf
  refine sF fl (Value.int .i64) ?_
  conv=>whnf
  repeat' ((first|refine nI ?_|refine aI ?_|refine tI ?_|refine fI ?_|fail);conv=>whnf)
  refine⟨4,?_,by omega,by dsimp only;omega⟩
  exact aR.by_ [(12, .old 12),(210, .old 210),(211, .old 211),(212, .old 212),(213, .old 18)] _ 400 rfl (aa) (aa)
 ·conv=>whnf
  refine tI ?_
  conv=>whnf
  refine sF fl (Value.int .i64) ?_
  conv=>whnf
  repeat' ((first|refine nI ?_|refine aI ?_|refine tI ?_|refine fI ?_|fail);conv=>whnf)
  refine⟨5,?_,by omega,by dsimp only;omega⟩
  exact aR.by_ [(12, .old 12),(210, .old 210),(211, .old 211),(212, .old 212),(213, .old 213),(214, .old 18)] _ 400 rfl (aa) (aa)
 ·conv=>whnf
  refine tI ?_
  conv=>whnf
  refine sF fl (Value.int .i64) ?_
  conv=>whnf
  repeat' ((first|refine nI ?_|refine aI ?_|refine tI ?_|refine fI ?_|fail);conv=>whnf)
  refine⟨6,?_,by omega,by dsimp only;omega⟩
  exact aR.by_ [(12, .old 12),(210, .old 210),(211, .old 211),(212, .old 212),(213, .old 213),(214, .old 214),(215, .old 18)] _ 400 rfl (aa) (aa)
 ·conv=>whnf
  refine tI ?_
  conv=>whnf
  refine sF fl (Value.int .i64) ?_
  conv=>whnf
  repeat' ((first|refine nI ?_|refine aI ?_|refine tI ?_|refine fI ?_|fail);conv=>whnf)
  refine⟨7,?_,by omega,by dsimp only;omega⟩
  exact aR.by_ [(12, .old 12),(210, .old 210),(211, .old 211),(212, .old 212),(213, .old 213),(214, .old 214),(215, .old 215),(216, .old 18)] _ 400 rfl (aa) (aa)
 ·conv=>whnf
  refine fI ?_
  conv=>whnf
  (refine oP (hvf) ?_;conv=>whnf)
  refine aF.loopF ac ae (fun n:Nat=>n<=vars.length) (fun n=>[(27, .int .i64 (n:Int))]) (fun n=>Eo p q sch vars n) (fun n=>vars.length-n) 0 (Nat.zero_le _) ?_;conv=>whnf
  refine⟨aR.by_ [(12, .old 12),(210, .old 210),(211, .old 211),(212, .old 212),(213, .old 213),(214, .old 214),(215, .old 215),(216, .old 216)] _ 400 rfl (aa) (aa),?_⟩
  rintro n hn
  conv=>whnf
  refine ag ?_ ?_<;>(intro h1;conv=>whnf)
  ·have hkn:=hk n (by omega)
   repeat' ((first|refine nI ?_|refine aI ?_|refine tI ?_|refine fI ?_|fail);conv=>whnf)
   have hno:∀k:Int,((vars.getD n cw).kind≠k)->mz vars k (n+1)=mz vars k n:=fun k=>FH
   have hup:∀k:Int,((vars.getD n cw).kind=k)->mz vars k (n+1)=nG (mz vars k n) ((vars.getD n cw).seg,(vars.getD n cw).idx) (n:Int):=fun k=>FI
   rw[tN]
   generalize vars.getD n cw=v at*
   obtain⟨kd,sg,ix⟩:=v
   dsimp only at hkn hno hup
   obtain rfl|rfl|rfl|rfl|rfl|rfl|rfl:kd=0\/kd=1\/kd=2\/kd=3\/kd=4\/kd=5\/kd=6:=by omega
   ·apply gS
    case k=>
     intro o1 o2 o3 o4 o5 o6
     refine kF [0,1,3,4,5,7,9,11,12] (by decide+kernel) ?_
     conv=>whnf
     repeat' first
      |exact True.intro
      |(refine And.intro ?_ ?_<;>conv=>whnf)
      |(refine cz (by clear o1 o2 o3 o4 o5 o6;dsimp only;omega) ?_;conv=>whnf)
      |(refine sG jH (sg,ix) (n:Int) rfl rfl ?_;conv=>whnf)
      |with_reducible exact o1
      |with_reducible exact o2
      |with_reducible exact o3
      |with_reducible exact o4
      |with_reducible exact o5
      |with_reducible exact o6
      |fail
    all_goals try first
     |exact True.intro
     |exact True
    all_goals
     repeat' ((first|refine nI ?_|refine aI ?_|refine tI ?_|refine fI ?_|fail);conv=>whnf)
     refine⟨n+1,?_,by omega,by dsimp only;omega⟩
     dsimp only
     unfold Eo
     rw[hno 1 (by decide),hno 2 (by decide),hno 3 (by decide),hno 4 (by decide),hno 5 (by decide),hno 6 (by decide),hup 0 rfl]
     exact aR.by_ [(12, .old 12),(210, .old 210),(211, .old 211),(212, .old 212),(213, .old 213),(214, .old 214),(215, .old 215),(216, .old 216)] _ 400 rfl (aa) (aa)
   ·apply gS
    case k=>
     intro o1 o2 o3 o4 o5 o6
     refine kF [0,1,3,4,5,7,9,11,12] (by decide+kernel) ?_
     conv=>whnf
     repeat' first
      |exact True.intro
      |(refine And.intro ?_ ?_<;>conv=>whnf)
      |(refine cz (by clear o1 o2 o3 o4 o5 o6;dsimp only;omega) ?_;conv=>whnf)
      |(refine sG jH (sg,ix) (n:Int) rfl rfl ?_;conv=>whnf)
      |with_reducible exact o1
      |with_reducible exact o2
      |with_reducible exact o3
      |with_reducible exact o4
      |with_reducible exact o5
      |with_reducible exact o6
      |fail
    all_goals try first
     |exact True.intro
     |exact True
    all_goals
     repeat' ((first|refine nI ?_|refine aI ?_|refine tI ?_|refine fI ?_|fail);conv=>whnf)
     refine⟨n+1,?_,by omega,by dsimp only;omega⟩
     dsimp only
     unfold Eo
     rw[hno 0 (by decide),hno 2 (by decide),hno 3 (by decide),hno 4 (by decide),hno 5 (by decide),hno 6 (by decide),hup 1 rfl]
     exact aR.by_ [(12, .old 12),(210, .old 210),(211, .old 211),(212, .old 212),(213, .old 213),(214, .old 214),(215, .old 215),(216, .old 216)] _ 400 rfl (aa) (aa)
   ·apply gS
    case k=>
     intro o1 o2 o3 o4 o5 o6
     refine kF [0,1,3,4,5,7,9,11,12] (by decide+kernel) ?_
     conv=>whnf
     repeat' first
      |exact True.intro
      |(refine And.intro ?_ ?_<;>conv=>whnf)
      |(refine cz (by clear o1 o2 o3 o4 o5 o6;dsimp only;omega) ?_;conv=>whnf)
      |(refine sG jH (sg,ix) (n:Int) rfl rfl ?_;conv=>whnf)
      |with_reducible exact o1
      |with_reducible exact o2
      |with_reducible exact o3
      |with_reducible exact o4
      |with_reducible exact o5
      |with_reducible exact o6
      |fail
    all_goals try first
     |exact True.intro
     |exact True
    all_goals
     repeat' ((first|refine nI ?_|refine aI ?_|refine tI ?_|refine fI ?_|fail);conv=>whnf)
     refine⟨n+1,?_,by omega,by dsimp only;omega⟩
     dsimp only
     unfold Eo
     rw[hno 0 (by decide),hno 1 (by decide),hno 3 (by decide),hno 4 (by decide),hno 5 (by decide),hno 6 (by decide),hup 2 rfl]
     exact aR.by_ [(12, .old 12),(210, .old 210),(211, .old 211),(212, .old 212),(213, .old 213),(214, .old 214),(215, .old 215),(216, .old 216)] _ 400 rfl (aa) (aa)
   ·apply gS
    case k=>
     intro o1 o2 o3 o4 o5 o6
     refine kF [0,1,3,4,5,7,9,11,12] (by decide+kernel) ?_
     conv=>whnf
     repeat' first
      |exact True.intro
      |(refine And.intro ?_ ?_<;>conv=>whnf)
      |(refine cz (by clear o1 o2 o3 o4 o5 o6;dsimp only;omega) ?_;conv=>whnf)
      |(refine sG jH (sg,ix) (n:Int) rfl rfl ?_;conv=>whnf)
      |with_reducible exact o1
      |with_reducible exact o2
      |with_reducible exact o3
      |with_reducible exact o4
      |with_reducible exact o5
      |with_reducible exact o6
      |fail
    all_goals try first
     |exact True.intro
     |exact True
    all_goals
     repeat' ((first|refine nI ?_|refine aI ?_|refine tI ?_|refine fI ?_|fail);conv=>whnf)
     refine⟨n+1,?_,by omega,by dsimp only;omega⟩
     dsimp only
     unfold Eo
     rw[hno 0 (by decide),hno 1 (by decide),hno 2 (by decide),hno 4 (by decide),hno 5 (by decide),hno 6 (by decide),hup 3 rfl]
     exact aR.by_ [(12, .old 12),(210, .old 210),(211, .old 211),(212, .old 212),(213, .old 213),(214, .old 214),(215, .old 215),(216, .old 216)] _ 400 rfl (aa) (aa)
   ·apply gS
    case k=>
     intro o1 o2 o3 o4 o5 o6
     refine kF [0,1,3,4,5,7,9,11,12] (by decide+kernel) ?_
     conv=>whnf
     repeat' first
      |exact True.intro
      |(refine And.intro ?_ ?_<;>conv=>whnf)
      |(refine cz (by clear o1 o2 o3 o4 o5 o6;dsimp only;omega) ?_;conv=>whnf)
      |(refine sG jH (sg,ix) (n:Int) rfl rfl ?_;conv=>whnf)
      |with_reducible exact o1
      |with_reducible exact o2
      |with_reducible exact o3
      |with_reducible exact o4
      |with_reducible exact o5
      |with_reducible exact o6
      |fail
    all_goals try first
     |exact True.intro
     |exact True
    all_goals
     repeat' ((first|refine nI ?_|refine aI ?_|refine tI ?_|refine fI ?_|fail);conv=>whnf)
     refine⟨n+1,?_,by omega,by dsimp only;omega⟩
     dsimp only
     unfold Eo
     rw[hno 0 (by decide),hno 1 (by decide),hno 2 (by decide),hno 3 (by decide),hno 5 (by decide),hno 6 (by decide),hup 4 rfl]
     exact aR.by_ [(12, .old 12),(210, .old 210),(211, .old 211),(212, .old 212),(213, .old 213),(214, .old 214),(215, .old 215),(216, .old 216)] _ 400 rfl (aa) (aa)
   ·apply gS
    case k=>
     intro o1 o2 o3 o4 o5 o6
     refine kF [0,1,3,4,5,7,9,11,12] (by decide+kernel) ?_
     conv=>whnf
     repeat' first
      |exact True.intro
      |(refine And.intro ?_ ?_<;>conv=>whnf)
      |(refine cz (by clear o1 o2 o3 o4 o5 o6;dsimp only;omega) ?_;conv=>whnf)
      |(refine sG jH (sg,ix) (n:Int) rfl rfl ?_;conv=>whnf)
      |with_reducible exact o1
      |with_reducible exact o2
      |with_reducible exact o3
      |with_reducible exact o4
      |with_reducible exact o5
      |with_reducible exact o6
      |fail
    all_goals try first
     |exact True.intro
     |exact True
    all_goals
     repeat' ((first|refine nI ?_|refine aI ?_|refine tI ?_|refine fI ?_|fail);conv=>whnf)
     refine⟨n+1,?_,by omega,by dsimp only;omega⟩
     dsimp only
     unfold Eo
     rw[hno 0 (by decide),hno 1 (by decide),hno 2 (by decide),hno 3 (by decide),hno 4 (by decide),hno 6 (by decide),hup 5 rfl]
     exact aR.by_ [(12, .old 12),(210, .old 210),(211, .old 211),(212, .old 212),(213, .old 213),(214, .old 214),(215, .old 215),(216, .old 216)] _ 400 rfl (aa) (aa)
   ·apply gS
    case k=>
     intro o1 o2 o3 o4 o5 o6
     refine kF [0,1,3,4,5,7,9,11,12] (by decide+kernel) ?_
     conv=>whnf
     repeat' first
      |exact True.intro
      |(refine And.intro ?_ ?_<;>conv=>whnf)
      |(refine cz (by clear o1 o2 o3 o4 o5 o6;dsimp only;omega) ?_;conv=>whnf)
      |(refine sG jH (sg,ix) (n:Int) rfl rfl ?_;conv=>whnf)
      |with_reducible exact o1
      |with_reducible exact o2
      |with_reducible exact o3
      |with_reducible exact o4
      |with_reducible exact o5
      |with_reducible exact o6
      |fail
    all_goals try first
     |exact True.intro
     |exact True
    all_goals
     repeat' ((first|refine nI ?_|refine aI ?_|refine tI ?_|refine fI ?_|fail);conv=>whnf)
     refine⟨n+1,?_,by omega,by dsimp only;omega⟩
     dsimp only
     unfold Eo
     rw[hno 0 (by decide),hno 1 (by decide),hno 2 (by decide),hno 3 (by decide),hno 4 (by decide),hno 5 (by decide),hup 6 rfl]
     exact aR.by_ [(12, .old 12),(210, .old 210),(211, .old 211),(212, .old 212),(213, .old 213),(214, .old 214),(215, .old 215),(216, .old 216)] _ 400 rfl (aa) (aa)
  ·obtain rfl:n=vars.length:=by omega
   exact⟨rfl,(aa)⟩
theorem yc {p:an} {q:aE} {sch:List Int} {v:Vb} (h:v∈bI p q sch):0<=v.kind/\v.kind<7:=by
 unfold bI at h
 rcases List.mem_append.1 h with h|h
 ·rcases List.mem_append.1 h with h|h
  ·simp only[List.mem_cons,List.not_mem_nil,or_false] at h
   rcases h with rfl|rfl|rfl<;>exact⟨by decide,by decide⟩
  ·unfold vf at h
   rcases List.mem_append.1 h with h|h
   ·obtain⟨x,_,rfl⟩:=List.mem_map.1 h
    exact⟨by dsimp only;omega,by dsimp only;omega⟩
   ·split at h
    ·obtain⟨x,_,rfl⟩:=List.mem_map.1 h
     exact⟨by dsimp only;omega,by dsimp only;omega⟩
    ·cases h
 ·obtain⟨j,_,h⟩:=List.mem_flatMap.1 h
  obtain⟨r,_,h⟩:=gm h
  have:=(gR h).1
  omega
theorem t3 {p:an} (hv:aw p=0) (i:Nat) (hi:i<p.rules.length):(p.rules.getD i aq).send.length<=60:=by
 have h:=dE hv
 have h1:¬lp (p.rules.getD i aq):=fun hb=>h (by unfold cp;exact .inr (.inr (.inr (.inr (.inr (.inr (.inr (.inr (.inl ⟨i,hi,hb⟩)))))))))
 unfold lp at h1
 omega
def fC:List kK:=[⟨-1,1,0,0⟩,⟨0,1,-1,0⟩,⟨0,1,0,-1⟩]
def mA (vars:List Vb) (ls:List kK):List eN:=ls.map fun l=>cL vars (vg l)
theorem lK (vars:List Vb) (ls:List kK) (l:kK):mA vars (ls++[l])=mA vars ls++[cL vars (vg l)]:=by unfold mA;rw[List.map_append];rfl
theorem qC (ls:List kK) (x:Nat) (hx:x<ls.length):ls.take (x+1)=ls.take x++[ls.getD (x:Int).toNat eJ]:=by
 rw[tN,List.take_succ_eq_append_getElem hx,au eJ hx]
def vC (p:an) (sch:List Int) (vars:List Vb) (n:Nat):List eN:=((List.range n).flatMap (tL p sch)).map (cL vars)
theorem t4 (p:an) (sch:List Int) (vars:List Vb) (n:Nat):vC p sch vars (n+1)=vC p sch vars n++(tL p sch n).map (cL vars):=by
 unfold vC
 rw[List.range_succ,List.flatMap_append,List.map_append]
 simp
theorem FJ (p:an) (q:aE) (hq:aU p q=0) (sch:List Int) (hs:eM (ar p.rules).length sch) (number:Int) (hb:number<=1000000):ab Tryz.prog 38 [.pd (du p q), .sl 0 ao sch, .int .i64 number]
  (fun u=>u= .agg [.int .i64 (bI p q sch).length, .sl eZ d6 (oO p q sch number)]):=by
 have vq:=bl hq
 have hV:=vq.vld
 have w:=bk hV
 have wl:=w.len
 have hT:=w.thr
 have hsl:=dF hs
 have hvl:=oJ hq hs
 have hnd:=oI hq sch
 have hbeg:=H' p q sch hq hs fun n hn=>yc (bi (l:=bI p q sch) cw hn)
 have hpar:=fun rows (hr:rows.length<=1000000) l (hl:eD l)=>HY p q sch (bI p q sch) rows hnd (by omega) hr l hl
 have hsta:=fun rows (hr:rows.length<=1000000) kind hk l hl=>H1 p q sch (bI p q sch) rows hnd (by omega) hr (by omega) kind hk l hl
 have hseg:=fun rows (hr:rows.length<=100000) j hj=>H7 p q sch (bI p q sch) rows hnd (by omega) hr (by omega) (by omega) (fun i hi=>by have:=t3 hV i hi;omega) (by omega) (fun g hg=>(Ax hV hg).2) hs j hj
 have hvio:=fun rows (hr:rows.length<=100000) (m:Nat) (hm:m<=1000000)=>H9 p q sch (bI p q sch) rows hnd (by omega) hr (by omega) (by omega) (fun i hi=>by have:=t3 hV i hi;omega) (by omega) hV
  (fun k=>⟨by have:=(vq.bad k).1;omega,fun i hi=>by
   have c:=qn vq k hi
   have:=bu c.1
   omega⟩)
  (by
   rcases vq.kind with k|k
   ·have:=vq.shp;omega
   ·have:=bu (vq.goal k).1;omega)
  (fun i hi=>⟨fun g hg=>(oQ (w.rul i hi) hg).2,by have:=d8 hV i hi;omega⟩) m hm
 have hbl:∀l∈oN p,eD l:=Fh hV
 have hblit:∀x:Nat,x<3->eD (fC.getD (x:Int).toNat eJ):=fun x hx=>hbl _ (by
  unfold oN
  rw[tN]
  exact List.mem_append_left _ (List.mem_append_left _ (bi (l:=fC) eJ hx)))
 have hbres:∀x:Nat,x<p.resilience.length->eD (p.resilience.getD (x:Int).toNat eJ):=fun x hx=>hbl _ (by
  unfold oN
  rw[tN]
  exact List.mem_append_right _ (bi (l:=p.resilience) eJ hx))
 have fB:∀a b c d:Int,-100<=a/\a<=100->-100<=b/\b<=100->-100<=c/\c<=100->-100<=d/\d<=100->eD ⟨a,b,c,d⟩:=fun a b c d h1 h2 h3 h4=>⟨h1,h2,h3,h4⟩
 have hsys:oO p q sch number=(mA (bI p q sch) (oN p)++(rH p).map (cL (bI p q sch))++vC p sch (bI p q sch) (sch.length+1))++(if 0<=number then(rI p q sch.length number.toNat).map (cL (bI p q sch)) else[]):=by
  unfold oO Fb mA vC
  rw[List.map_append,List.map_append,List.map_append,List.map_map]
  congr 1
  split<;>rfl
 have hsel:∀n,n<=sch.length+1->(vC p sch (bI p q sch) n).length<=20*n:=by
  intro n
  induction n with
  |zero=>intro _;simp[vC]
  |succ n ih=>
   intro hn
   rw[t4,List.length_append,List.length_map]
   have a:=ih (by omega)
   have:(tL p sch n).length<=20:=by
    unfold tL
    rw[List.length_append,List.length_append]
    split<;>split<;>simp<;>omega
   omega
 have hpal:(mA (bI p q sch) (oN p)).length<=9:=by unfold mA oN;rw[List.length_map,List.length_append,List.length_append];split<;>simp<;>omega
 have hstl:((rH p).map (cL (bI p q sch))).length<=4:=by unfold rH;rw[List.length_map,List.length_append];split<;>simp
 have hpe:oN p=fC++(if p.fault=0 then[⟨0,0,-1,0⟩,⟨0,0,0,-1⟩] else[])++p.resilience:=rfl
 rw[hsys]
 clear hsys hbl
 generalize hvv:bI p q sch=vars at*
 refine ab.intro ac ae Tryz.func38 rfl (by decide) ?_;(conv=>whnf)
 refine am.news 400 eU (dG p q sch vars []) (.ptr 200 0) hbeg (aa) rfl (by rintro u M' ⟨rfl,rfl⟩;exact⟨(aa),(aa)⟩) ?_
 conv=>whnf
 refine bD eJ bT fC rfl ?_
 conv=>whnf
 refine aF.loopF ac ae (fun x:Nat=>x<=3) (fun x=>[(21, .int .i64 (x:Int))]) (fun x=>[(6, .box 46 [.int .i64 0, .nilsl]),(19, .row 182 eJ bT fC)]++dG p q sch vars (mA vars (fC.take x))) (fun x=>3-x) 0 (Nat.zero_le _) ?_;conv=>whnf
 refine⟨aR.by_ ((6, .old 6)::(19, .old 19)::eU) _ 400 rfl (aa) (aa),?_⟩
 rintro x hx
 conv=>whnf
 refine ag ?_ ?_<;>(intro h1;conv=>whnf)
 ·have hx3:x<3:=by have:(fC.length:Int)=3:=rfl;omega
  have hc:=hpar (mA vars (fC.take x)) (by unfold mA;rw[List.length_map,List.length_take];omega) _ (hblit x hx3)
  rw[<-lK,<-qC fC x hx3] at hc
  repeat' ((first|refine nI ?_|refine aI ?_|refine tI ?_|refine fI ?_|fail);conv=>whnf)
  refine am.call eU (dG p q sch vars (mA vars (fC.take x))) 400 rfl (aa) (aa) hc ?_
  rintro u M' ⟨rfl,rfl⟩
  refine⟨rP,lG p q sch vars (mA vars (fC.take (x+1))), .tup [],rfl,(aa),trivial,?_⟩
  conv=>whnf
  repeat' ((first|refine nI ?_|refine aI ?_|refine tI ?_|refine fI ?_|fail);conv=>whnf)
  refine⟨x+1,?_,by omega,by dsimp only;omega⟩
  exact aR.by_ [(6, .old 6),(19, .old 19),(200, .old 200),(201, .old 202),(210, .old 210),(211, .old 211),(212, .old 212),(213, .old 213),(214, .old 214),(215, .old 215),(216, .old 216)] _ 400 rfl (aa) (aa)
 ·obtain rfl:x=3:=by have:(fC.length:Int)=3:=rfl;omega
  rw[show fC.take 3=fC from rfl]
  obtain⟨LL,hLL⟩:∃LL:List kK,LL=fC++(if p.fault=0 then[⟨0,0,-1,0⟩,⟨0,0,0,-1⟩] else[]):=⟨_,rfl⟩
  have hL1:p.fault=0->LL=fC++([⟨0,0,-1,0⟩]++[⟨0,0,0,-1⟩]):=fun h=>by rw[hLL,if_pos h];rfl
  have hL2:¬p.fault=0->LL=fC:=fun h=>by rw[hLL,if_neg h,List.append_nil]
  have hLl:LL.length<=5:=by rw[hLL];unfold fC;split<;>simp
  rw[<-hLL] at hpe
  clear hLL
  apply once (A:=aF Tryz.prog _ (.loop _) ([.pd (du p q), .sl 0 ao sch, .int .i64 number, .top, .top, .top, .ptr 6 0, .ptr 200 0]++List.replicate 37 .top++[.sl eJ bT p.resilience, .int .i64 (p.resilience.length:Int), .int .i64 0]++List.replicate 39 .top) (aj.ofL ((6, .box 46 [.int .i64 0, .nilsl])::dG p q sch vars (mA vars LL))) _)
  case k=>
   intro hs0
   refine ag (fun hf=>?_) (fun hf=>?_)
   rotate_left
   ·conv=>whnf
    exact aF.sub (by rw[hL2 hf];exact aR.by_ [(6, .old 6),(200, .old 200),(201, .old 201),(210, .old 210),(211, .old 211),(212, .old 212),(213, .old 213),(214, .old 214),(215, .old 215),(216, .old 216)] _ 400 rfl (aa) (aa)) hs0
   ·have c1:=hpar (mA vars fC) (by unfold mA fC;simp) ⟨0,0,-1,0⟩ (fB _ _ _ _ (by omega) (by omega) (by omega) (by omega))
    rw[<-lK] at c1
    have c2:=hpar (mA vars (fC++[⟨0,0,-1,0⟩])) (by unfold mA fC;simp) ⟨0,0,0,-1⟩ (fB _ _ _ _ (by omega) (by omega) (by omega) (by omega))
    rw[<-lK,List.append_assoc] at c2
    simp only[jo,j8,bZ,List.set]
    refine fA ?_
    refine mR rfl ?_
    refine dW ?_
    refine db ?_
    refine aN (.ptr 200 0) rfl (fun K' h=>?_) rfl ?_
    ·conv=>whnf
     exact h
    refine aN (.agg (bT ⟨0,0,-1,0⟩)) rfl (fun K' h=>?_) rfl ?_
    ·conv=>whnf
     exact h
    refine fe rfl rfl ?_
    refine am.call eU (dG p q sch vars (mA vars fC)) 400 rfl (aa) (aa) c1 ?_
    rintro u M' ⟨rfl,rfl⟩
    refine⟨rP,lG p q sch vars (mA vars (fC++[⟨0,0,-1,0⟩])), .tup [],rfl,(aa),trivial,?_⟩
    simp only[jo,j8,bZ,List.set]
    refine fA ?_
    refine db ?_
    refine aN (.ptr 200 0) rfl (fun K' h=>?_) rfl ?_
    ·conv=>whnf
     exact h
    refine aN (.agg (bT ⟨0,0,0,-1⟩)) rfl (fun K' h=>?_) rfl ?_
    ·conv=>whnf
     exact h
    refine fe rfl rfl ?_
    refine am.call A9 (dG p q sch vars (mA vars (fC++[⟨0,0,-1,0⟩]))) 400 rfl (aa) (aa) c2 ?_
    rintro u M' ⟨rfl,rfl⟩
    refine⟨Dj,HG p q sch vars (mA vars (fC++([⟨0,0,-1,0⟩]++[⟨0,0,0,-1⟩]))), .tup [],rfl,(aa),trivial,?_⟩
    simp only[jo,j8,bZ,List.set]
    refine fA ?_
    conv=>whnf
    exact aF.sub (by rw[hL1 hf];exact aR.by_ [(6, .old 6),(200, .old 200),(201, .old 203),(210, .old 210),(211, .old 211),(212, .old 212),(213, .old 213),(214, .old 214),(215, .old 215),(216, .old 216)] _ 400 rfl (aa) (aa)) hs0
  case h=>
   refine aF.loopF ac ae (fun x:Nat=>x<=p.resilience.length) (fun x=>[(47, .int .i64 (x:Int))]) (fun x=>(6, .box 46 [.int .i64 0, .nilsl])::dG p q sch vars (mA vars (LL++p.resilience.take x))) (fun x=>p.resilience.length-x) 0 (Nat.zero_le _) ?_;conv=>whnf
   refine⟨by rw[List.take_zero,List.append_nil];exact aR.by_ ((6, .old 6)::eU) _ 400 rfl (aa) (aa),?_⟩
   rintro x hx
   conv=>whnf
   refine ag ?_ ?_<;>(intro h1;conv=>whnf)
   ·have hxl:x<p.resilience.length:=by omega
    have hc:=hpar (mA vars (LL++p.resilience.take x)) (by unfold mA;simp only[List.length_map,List.length_append,List.length_take];omega) _ (hbres x hxl)
    rw[<-lK,List.append_assoc,<-qC p.resilience x hxl] at hc
    repeat' ((first|refine nI ?_|refine aI ?_|refine tI ?_|refine fI ?_|fail);conv=>whnf)
    refine am.call eU (dG p q sch vars (mA vars (LL++p.resilience.take x))) 400 rfl (aa) (aa) hc ?_
    rintro u M' ⟨rfl,rfl⟩
    refine⟨rP,lG p q sch vars (mA vars (LL++p.resilience.take (x+1))), .tup [],rfl,(aa),trivial,?_⟩
    conv=>whnf
    repeat' ((first|refine nI ?_|refine aI ?_|refine tI ?_|refine fI ?_|fail);conv=>whnf)
    refine⟨x+1,?_,by omega,by dsimp only;omega⟩
    exact aR.by_ [(6, .old 6),(200, .old 200),(201, .old 202),(210, .old 210),(211, .old 211),(212, .old 212),(213, .old 213),(214, .old 214),(215, .old 215),(216, .old 216)] _ 400 rfl (aa) (aa)
   ·obtain rfl:x=p.resilience.length:=by omega
    rw[List.take_length,<-hpe]
    generalize hPP:mA vars (oN p)=PA at*
    have c3:=hsta PA (by omega) 3 (by omega) ⟨0,1,0,-1⟩ (fB _ _ _ _ (by omega) (by omega) (by omega) (by omega))
    have hS1:pA p->(rH p).map (cL vars)=[cL vars (i3 3 p.states.length 1 ⟨0,1,0,-1⟩),cL vars (i3 3 p.states.length (-1) ⟨0,1,0,-1⟩)]++[cL vars (i3 4 p.states.length 1 ⟨0,0,0,1⟩),cL vars (i3 4 p.states.length (-1) ⟨0,0,0,1⟩)]:=fun h=>by unfold rH;rw[if_pos h];rfl
    have hS2:¬pA p->(rH p).map (cL vars)=[cL vars (i3 3 p.states.length 1 ⟨0,1,0,-1⟩),cL vars (i3 3 p.states.length (-1) ⟨0,1,0,-1⟩)]:=fun h=>by unfold rH;rw[if_neg h];rfl
    have c4:=hsta (PA++[cL vars (i3 3 p.states.length 1 ⟨0,1,0,-1⟩),cL vars (i3 3 p.states.length (-1) ⟨0,1,0,-1⟩)]) (by simp only[List.length_append,List.length_cons,List.length_nil];omega) 4 (by omega) ⟨0,0,0,1⟩ (fB _ _ _ _ (by omega) (by omega) (by omega) (by omega))
    rw[List.append_assoc] at c4
    generalize (rH p).map (cL vars)=SA at*
    refine am.call eU (dG p q sch vars PA) 400 rfl (aa) (aa) c3 ?_
    rintro u M' ⟨rfl,rfl⟩
    refine⟨rP,lG p q sch vars (PA++[cL vars (i3 3 p.states.length 1 ⟨0,1,0,-1⟩),cL vars (i3 3 p.states.length (-1) ⟨0,1,0,-1⟩)]), .tup [],rfl,(aa),trivial,?_⟩
    conv=>whnf
    apply once (A:=aF Tryz.prog _ (.loop _) ([.pd (du p q), .sl 0 ao sch, .int .i64 number, .top, .top, .top, .ptr 6 0, .ptr 200 0]++List.replicate 57 .top++[.int .i64 ((sch.length:Int)+1), .int .i64 0]++List.replicate 20 .top) (aj.ofL ((6, .box 46 [.int .i64 0, .nilsl])::dG p q sch vars (PA++SA))) _)
    case k=>
     intro hs1
     refine dC (gn p q) (fun _=>?_) (fun _=>?_)<;>(conv=>whnf)
     ·rename_i hw
      rw[<-hS1 hw] at c4
      refine am.call A9 (dG p q sch vars (PA++[cL vars (i3 3 p.states.length 1 ⟨0,1,0,-1⟩),cL vars (i3 3 p.states.length (-1) ⟨0,1,0,-1⟩)])) 400 rfl (aa) (aa) c4 ?_
      rintro u M' ⟨rfl,rfl⟩
      refine⟨Dj,HG p q sch vars (PA++SA), .tup [],rfl,(aa),trivial,?_⟩
      conv=>whnf
      repeat' ((first|refine nI ?_|refine aI ?_|refine tI ?_|refine fI ?_|fail);conv=>whnf)
      exact aF.sub (aR.by_ [(6, .old 6),(200, .old 200),(201, .old 203),(210, .old 210),(211, .old 211),(212, .old 212),(213, .old 213),(214, .old 214),(215, .old 215),(216, .old 216)] _ 400 rfl (aa) (aa)) hs1
     ·rename_i hw
      repeat' ((first|refine nI ?_|refine aI ?_|refine tI ?_|refine fI ?_|fail);conv=>whnf)
      exact aF.sub (by rw[hS2 hw];exact aR.by_ [(6, .old 6),(200, .old 200),(201, .old 202),(210, .old 210),(211, .old 211),(212, .old 212),(213, .old 213),(214, .old 214),(215, .old 215),(216, .old 216)] _ 400 rfl (aa) (aa)) hs1
    case h=>
     refine aF.loopF ac ae (fun x:Nat=>x<=sch.length+1) (fun x=>[(66, .int .i64 (x:Int))]) (fun x=>(6, .box 46 [.int .i64 0, .nilsl])::dG p q sch vars (PA++SA++vC p sch vars x)) (fun x=>sch.length+1-x) 0 (Nat.zero_le _) ?_;conv=>whnf
     refine⟨by rw[show vC p sch vars 0=[] from rfl,List.append_nil];exact aR.by_ ((6, .old 6)::eU) _ 400 rfl (aa) (aa),?_⟩
     rintro x hx
     conv=>whnf
     refine ag ?_ ?_<;>(intro h1;conv=>whnf)
     ·have hxl:x<=sch.length:=by omega
      have hc:=hseg (PA++SA++vC p sch vars x) (by have:=hsel x (by omega);simp only[List.length_append];omega) x hxl
      rw[List.append_assoc (PA++SA),<-t4] at hc
      repeat' ((first|refine nI ?_|refine aI ?_|refine tI ?_|refine fI ?_|fail);conv=>whnf)
      refine am.call eU (dG p q sch vars (PA++SA++vC p sch vars x)) 400 rfl (aa) (aa) hc ?_
      rintro u M' ⟨rfl,rfl⟩
      refine⟨rP,lG p q sch vars (PA++SA++vC p sch vars (x+1)), .tup [],rfl,(aa),trivial,?_⟩
      conv=>whnf
      repeat' ((first|refine nI ?_|refine aI ?_|refine tI ?_|refine fI ?_|fail);conv=>whnf)
      refine⟨x+1,?_,by omega,by dsimp only;omega⟩
      exact aR.by_ [(6, .old 6),(200, .old 200),(201, .old 202),(210, .old 210),(211, .old 211),(212, .old 212),(213, .old 213),(214, .old 214),(215, .old 215),(216, .old 216)] _ 400 rfl (aa) (aa)
     ·obtain rfl:x=sch.length+1:=by omega
      have hse:=hsel (sch.length+1) (by omega)
      refine ag ?_ ?_<;>(intro hz;conv=>whnf)
      ·rw[if_pos hz]
       have hc:=hvio (PA++SA++vC p sch vars (sch.length+1)) (by simp only[List.length_append];omega) number.toNat (by omega)
       rw[Int.toNat_of_nonneg hz] at hc
       refine am.call eU (dG p q sch vars (PA++SA++vC p sch vars (sch.length+1))) 400 rfl (aa) (aa) hc ?_
       rintro u M' ⟨rfl,rfl⟩
       refine⟨rP,lG p q sch vars (PA++SA++vC p sch vars (sch.length+1)++(rI p q sch.length number.toNat).map (cL vars)), .tup [],rfl,(aa),trivial,?_⟩
       conv=>whnf
       refine jJ [0,1,2,4,5,6,8] (by decide+kernel) ?_
       conv=>whnf
       repeat' first
        |exact True.intro
        |(refine And.intro ?_ ?_<;>conv=>whnf)
        |exact rfl
        |fail
      ·rw[if_neg hz,List.append_nil]
       refine jJ [0,1,2,4,5,6,8] (by decide+kernel) ?_
       conv=>whnf
       repeat' first
        |exact True.intro
        |(refine And.intro ?_ ?_<;>conv=>whnf)
        |exact rfl
        |fail
noncomputable def FK (p:an) (q:aE) (sch:List Int) (number:Int):AV:=
 if dl p q≠0 then .tup [.agg [.int .i64 0, .nilsl], .int .i64 (dl p q)]
 else if¬eM (ar p.rules).length sch\/number< -1\/(wA p q:Int)<=number then .tup [.agg [.int .i64 0, .nilsl], .int .i64 1]
 else .tup [.agg [.int .i64 (bI p q sch).length, .sl eZ d6 (oO p q sch number)], .int .i64 0]
theorem FL (p:an) (q:aE) (hp:g7 p) (hq:qk q) (sch:List Int) (hl:sch.length<=140737488355328) (number:Int):ab Tryz.prog 26 [.agg (aB p), .agg (cJ q), .sl 0 ao sch, .int .i64 number] (fun u=>u=FK p q sch number):=by
 have he:=FK.eq_1 p q sch number
 refine ab.intro ac ae Tryz.func26 rfl (by decide) ?_;(conv=>whnf)
 refine ak rfl ?_
 conv=>whnf
 refine ak rfl ?_
 conv=>whnf
 refine am.of_pure (n:=5) (tQ p q hp hq) (by rfl) ?_
 rintro _ rfl
 by_cases h:dl p q=0
 ·rw[if_neg (by omega)] at he
  rw[i4 h]
  have hcs:=Fq h
  conv=>whnf
  refine fI ?_
  conv=>whnf
  refine dC (qu p q sch hl) (fun _=>?_) (fun _=>?_)<;>(conv=>whnf)
  ·rename_i hs
   refine ag ?_ ?_<;>(intro h1;conv=>whnf)
   ·rw[if_pos (.inr (.inl h1))] at he
    exact⟨he.symm,rfl⟩
   refine ag ?_ ?_<;>(intro h2;conv=>whnf)
   ·rw[if_pos (.inr (.inr (by omega)))] at he
    exact⟨he.symm,rfl⟩
   rw[if_neg (fun hh=>by rcases hh with hh|hh|hh;exact hh hs;omega;omega)] at he
   (refine oP (FJ p q (gp h) sch hs number (by omega)) ?_;conv=>whnf)
   exact⟨he.symm,rfl⟩
  ·rename_i hs
   rw[if_pos (.inl hs)] at he
   exact⟨he.symm,rfl⟩
 ·rw[if_pos h] at he
  rw[fT rfl h]
  conv=>whnf
  refine eI h ?_
  conv=>whnf
  exact⟨he.symm,rfl⟩
end Go.Proofs.YtekmminpfhacpaaGreatDoor
