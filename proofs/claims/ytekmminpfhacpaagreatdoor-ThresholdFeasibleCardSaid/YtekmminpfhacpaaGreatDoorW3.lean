import Derived.Test.YtekmminpfhacpaaGreatDoorW2
set_option linter.unusedVariables false
set_option linter.unusedSimpArgs false
namespace Go.Proofs.YtekmminpfhacpaaGreatDoor
set_option maxRecDepth 100000
set_option maxHeartbeats 16000000
def Li:aV:=[(200, .old 200),(202, .old 201),(203, .old 202),(210, .old 210),(211, .old 211),(212, .old 212),(213, .old 213),(214, .old 214),(215, .old 215),(216, .old 216)]
def SG:aV:=[(200, .old 200),(201, .old 201),(202, .old 203),(210, .old 210),(211, .old 211),(212, .old 212),(213, .old 213),(214, .old 214),(215, .old 215),(216, .old 216)]
noncomputable abbrev Re (p:ap) (q:aJ) (sch:List Int) (vars:List Vb) (rows:List br):List (Nat×aU):=
 [(200, .box 156 (MB p q sch vars.length 203 rows.length)),(202, .dead),(203, .row 161 av aE rows),(210,gy vars 0),(211,gy vars 1),(212,gy vars 2),(213,gy vars 3),(214,gy vars 4),(215,gy vars 5),(216,gy vars 6)]
def oL (goal:List Int) (x:Nat):List Int:=((List.range x).map fun x:Nat=>(x:Int)).filter fun x=>decide (x∉goal)
theorem Lj (goal:List Int):oL goal 0=[]:=rfl
theorem Lk (goal:List Int) (x:Nat):oL goal (x+1)=oL goal x++if(x:Int)∈goal then[] else[(x:Int)]:=by
 unfold oL
 rw[List.range_succ,List.map_append,List.filter_append]
 congr 1
 by_cases h:(x:Int)∈goal<;>simp[h]
theorem Ov (goal:List Int) (x:Nat):(oL goal x).length<=x:=by
 unfold oL
 have:=List.length_filter_le (fun x=>decide (x∉goal)) ((List.range x).map fun x:Nat=>(x:Int))
 simpa using this
theorem R0 (p:ap) (q:aJ) (sch:List Int) (vars:List Vb) (rows:List br) (hn:vars.Nodup) (hv:vars.length<=1000000) (hr:rows.length<=100000) (hst:p.states.length<=1000) (hrl:p.rules.length<=1000) (hsd:∀i,i<p.rules.length->(p.rules.getD i au).send.length<=1000000) (hsl:sch.length<=9)
  (hV:aL p=0) (hbad:q.kind=1->q.bad.length<=1000/\∀i,i<q.bad.length->(q.bad.getD i dv).states.length<=10000/\0<=(q.bad.getD i dv).least/\(q.bad.getD i dv).least<=1000) (hgo:q.goal.length<=1000000)
  (hg:∀i,i<p.rules.length->(∀g∈(p.rules.getD i au).guards,(1<=g.coef/\g.coef<=100)/\fP g.bound)/\(p.rules.getD i au).guards.length<=1000) (number:Nat) (hnu:number<=1000000):
  aj Tryz.prog 110 [.ptr 200 0, .int .i64 (number:Int)] (ac.ofL (dx p q sch vars rows))
   (fun u M=>u= .tup []/\M=ac.ofL (pD p q sch vars (rows++(qI p q sch.length number).map (dj vars)))):=by
 refine aj.renorm 400 (R:=fun u M=>u= .tup []/\bD xk 400 M (pD p q sch vars (rows++(qI p q sch.length number).map (dj vars)))) ?_ ?_
 case refine_2=>
  rintro u M ⟨rfl,hM⟩
  exact⟨xk,_, .tup [],rfl,hM,trivial,rfl,rfl⟩
 have hch:=Lb p q hV number hnu
 by_cases hk:q.kind=1
 ·obtain⟨hbl,hbad⟩:=hbad hk
  obtain⟨R,hR⟩:∃R:Nat->List br,R=fun x=>rows++(q.bad.take x).map fun c=>dj vars (xa p sch.length c.states c.least):=⟨_,rfl⟩
  have hR0:R 0=rows:=by rw[hR];simp
  have hRn:∀x,x<q.bad.length->R (x+1)=R x++[dj vars (xa p sch.length (q.bad.getD (x:Int).toNat dv).states (q.bad.getD (x:Int).toNat dv).least)]:=fun x hx=>by
   rw[hR,tN]
   dsimp only
   rw[List.take_succ_eq_append_getElem hx,List.map_append,<-List.append_assoc,am dv hx]
   rfl
  have hRl:∀x,x<=q.bad.length->(R x).length<=102000:=fun x hx=>by
   rw[hR];simp only[List.length_append,List.length_map,List.length_take];omega
  have hend:rows++(qI p q sch.length number).map (dj vars)=R q.bad.length:=by
   rw[hR];dsimp only;rw[List.take_length];unfold qI;rw[if_pos hk,List.map_map];rfl
  rw[hend]
  have ha:=fun x (hx:x<q.bad.length)=>Qw p q sch vars (R x) hn hv (by have:=hRl x (by omega);omega) hrl (by omega) (q.bad.getD (x:Int).toNat dv).states (by rw[tN];exact(hbad x hx).1) (q.bad.getD (x:Int).toNat dv).least (by rw[tN];exact(hbad x hx).2)
  have ha:∀x,x<q.bad.length->aj Tryz.prog 198 [.ptr 200 0, .sl 0 ak (q.bad.getD (x:Int).toNat dv).states, .int .i64 (q.bad.getD (x:Int).toNat dv).least] (ac.ofL (dx p q sch vars (R x)))
    (fun u M=>u= .tup []/\M=ac.ofL (pD p q sch vars (R (x+1)))):=fun x hx=>by rw[hRn x hx];exact ha x hx
  clear hR hRn hend
  refine aj.intro ae ag (dx p q sch vars rows) Tryz.func110 rfl (by decide) ?_
  conv=>whnf
  refine dQ hk ?_
  conv=>whnf
  refine a8.loopF ae ag (fun x:Nat=>x<=q.bad.length) (fun x=>[(28, .int .i64 (x:Int))]) (fun x=>pD p q sch vars (R x)) (fun x=>q.bad.length-x) 0 (Nat.zero_le _) ?_;conv=>whnf
  refine⟨by rw[hR0];exact bd.by_ RQ _ 400 rfl (aa) (aa),?_⟩
  rintro x hx
  conv=>whnf
  refine ai ?_ ?_<;>(intro h1;conv=>whnf)
  ·have ha1:=ha x (by omega)
   repeat' first|refine dt ?_;conv=>whnf|fail
   refine aj.call HR (dx p q sch vars (R x)) 400 rfl (aa) (aa) ha1 ?_
   rintro u M' ⟨rfl,rfl⟩
   refine⟨Li,Re p q sch vars (R (x+1)), .tup [],rfl,(aa),trivial,?_⟩
   conv=>whnf
   repeat' first|refine dt ?_;conv=>whnf|fail
   refine⟨x+1,?_,by omega,by dsimp only;omega⟩
   exact bd.by_ SG _ 400 rfl (aa) (aa)
  ·obtain rfl:x=q.bad.length:=by omega
   exact⟨rfl,(aa)⟩
 ·rw[if_neg hk] at hch
  obtain⟨R,hR⟩:∃R:Nat->List br,R=fun x=>rows++(xa p sch.length (K3 p q) 1::(List.range x).map fun i=>uJ p sch.length (p.rules.getD i au) ((Bs p number).getD i 0)).map (dj vars):=⟨_,rfl⟩
  have hR0:R 0=rows++[dj vars (xa p sch.length (oL q.goal p.states.length) 1)]:=by rw[hR];rfl
  have hRn:∀x,R (x+1)=R x++[dj vars (uJ p sch.length (p.rules.getD x au) ((Bs p number).getD (x:Int).toNat 0))]:=fun x=>by
   rw[hR,tN]
   dsimp only
   rw[List.range_succ]
   simp only[List.map_append,List.map_cons,List.map_nil,List.append_assoc,List.cons_append]
  have hRl:∀x,x<=p.rules.length->(R x).length<=102000:=fun x hx=>by
   rw[hR];simp only[List.length_append,List.length_map,List.length_cons,List.length_range];omega
  have hend:rows++(qI p q sch.length number).map (dj vars)=R p.rules.length:=by
   rw[hR];unfold qI;rw[if_neg hk]
  rw[hend]
  have hi:∀x,x<p.rules.length->aj Tryz.prog 200 [.ptr 200 0, .int .i64 (x:Int), .int .i64 ((Bs p number).getD (x:Int).toNat 0)] (ac.ofL (dx p q sch vars (R x)))
    (fun u M=>u= .tup []/\M=ac.ofL (pD p q sch vars (R (x+1)))):=fun x hx=>by
   rw[hRn x]
   have hc:(Bs p number).getD (x:Int).toNat 0=(G3 p.rules number x:Int):=by rw[tN];exact w8 hx
   have:=G4 p.rules number x
   exact RZ p q sch vars (R x) hn hv (by have:=hRl x (by omega);omega) hrl hsd hsl x hx (hg x hx).1 (hg x hx).2 _ (by rw[hc];omega)
  have hol:=Ov q.goal
  have ha:=Qw p q sch vars rows hn hv (by omega) hrl (by omega) (oL q.goal p.states.length) (by have:=hol p.states.length;omega) 1 (by omega)
  rw[<-hR0] at ha
  have hO0:=Lj q.goal
  have hOn:=Lk q.goal
  have hcl:=px p number
  clear hR hR0 hRn hend
  generalize hO:oL q.goal=O at*
  generalize Bs p number=C at*
  clear hO
  refine aj.intro ae ag (dx p q sch vars rows) Tryz.func110 rfl (by decide) ?_
  conv=>whnf
  refine j9 hk ?_
  conv=>whnf
  refine a8.loopF ae ag (fun x:Nat=>x<=p.states.length) (fun x=>[(6, .row 230 (O x).length 1),(48, .int .i64 (x:Int))]) (fun x=>dx p q sch vars rows++[(230, .row 3 0 ak (O x))]) (fun x=>p.states.length-x) 0 (Nat.zero_le _) ?_;conv=>whnf
  refine⟨by rw[hO0];exact bd.by_ (dX++[(230, .nil 1)]) _ 400 rfl (aa) (aa),?_⟩
  rintro x hx
  conv=>whnf
  refine ai ?_ ?_<;>(intro h1;conv=>whnf)
  ·have hO1:=hOn x
   have hl1:=hol x
   repeat' first|refine dt ?_;conv=>whnf|fail
   refine dC (bN q.goal (x:Int) (by omega)) (fun _=>?_) (fun _=>?_)<;>(conv=>whnf)
   ·rename_i hm
    rw[if_pos hm,List.append_nil] at hO1
    repeat' first|refine dt ?_;conv=>whnf|fail
    refine⟨x+1,?_,by omega,by dsimp only;omega⟩
    dsimp only
    rw[hO1]
    exact bd.by_ (dX++[(230, .old 230)]) _ 400 rfl (aa) (aa)
   ·rename_i hm
    rw[if_neg hm] at hO1
    repeat' first|refine dt ?_;conv=>whnf|fail
    refine di [(x:Int)] rfl lI ?_
    conv=>whnf
    repeat' first|refine dt ?_;conv=>whnf|fail
    refine⟨x+1,?_,by omega,by dsimp only;omega⟩
    dsimp only
    rw[hO1]
    exact bd.by_ (dX++[(230, .old 65)]) _ 400 rfl (aa) (aa)
  ·obtain rfl:x=p.states.length:=by omega
   repeat' first|refine dt ?_;conv=>whnf|fail
   refine aj.hand 230 rfl ?_
   conv=>whnf
   refine aj.call dX (dx p q sch vars rows) 400 rfl (aa) (aa) ha ?_
   rintro u M' ⟨rfl,rfl⟩
   refine⟨xk,pD p q sch vars (R 0), .tup [],rfl,(aa),trivial,?_⟩
   conv=>whnf
   repeat' first|refine dt ?_;conv=>whnf|fail
   (refine oP (hch) ?_;conv=>whnf)
   refine a8.loopF ae ag (fun x:Nat=>x<=p.rules.length) (fun x=>[(6, .top),(68, .top),(77, .int .i64 (x:Int))]) (fun x=>pD p q sch vars (R x)) (fun x=>p.rules.length-x) 0 (Nat.zero_le _) ?_;conv=>whnf
   refine⟨bd.by_ xk _ 400 rfl (aa) (aa),?_⟩
   rintro x hx
   conv=>whnf
   refine ai ?_ ?_<;>(intro h1;conv=>whnf)
   ·have hi1:=hi x (by omega)
    repeat' first|refine dt ?_;conv=>whnf|fail
    refine aj.call HR (dx p q sch vars (R x)) 400 rfl (aa) (aa) hi1 ?_
    rintro u M' ⟨rfl,rfl⟩
    refine⟨Li,Re p q sch vars (R (x+1)), .tup [],rfl,(aa),trivial,?_⟩
    conv=>whnf
    repeat' first|refine dt ?_;conv=>whnf|fail
    refine⟨x+1,?_,by omega,by dsimp only;omega⟩
    exact bd.by_ SG _ 400 rfl (aa) (aa)
   ·obtain rfl:x=p.rules.length:=by omega
    exact⟨rfl,(aa)⟩
def SX (p:ap) (q:aJ) (sch:List Int):Nat->List (Nat×aU)
 |0=>[(12, .box 156 [.pd (fi p q), .sl 0 ak sch, .int .i64 0, .val (.map none), .val (.map none), .val (.map none), .val (.map none), .val (.map none), .val (.map none), .val (.map none), .nilsl])]
 |1=>[(12, .box 156 [.pd (fi p q), .sl 0 ak sch, .int .i64 0, .mp 210, .val (.map none), .val (.map none), .val (.map none), .val (.map none), .val (.map none), .val (.map none), .nilsl]),(210, .map hJ (Value.int .i64) (fun _=>none))]
 |2=>[(12, .box 156 [.pd (fi p q), .sl 0 ak sch, .int .i64 0, .mp 210, .mp 211, .val (.map none), .val (.map none), .val (.map none), .val (.map none), .val (.map none), .nilsl]),(210, .map hJ (Value.int .i64) (fun _=>none)),(211, .map hJ (Value.int .i64) (fun _=>none))]
 |3=>[(12, .box 156 [.pd (fi p q), .sl 0 ak sch, .int .i64 0, .mp 210, .mp 211, .mp 212, .val (.map none), .val (.map none), .val (.map none), .val (.map none), .nilsl]),(210, .map hJ (Value.int .i64) (fun _=>none)),(211, .map hJ (Value.int .i64) (fun _=>none)),(212, .map hJ (Value.int .i64) (fun _=>none))]
 |4=>[(12, .box 156 [.pd (fi p q), .sl 0 ak sch, .int .i64 0, .mp 210, .mp 211, .mp 212, .mp 213, .val (.map none), .val (.map none), .val (.map none), .nilsl]),(210, .map hJ (Value.int .i64) (fun _=>none)),(211, .map hJ (Value.int .i64) (fun _=>none)),(212, .map hJ (Value.int .i64) (fun _=>none)),(213, .map hJ (Value.int .i64) (fun _=>none))]
 |5=>[(12, .box 156 [.pd (fi p q), .sl 0 ak sch, .int .i64 0, .mp 210, .mp 211, .mp 212, .mp 213, .mp 214, .val (.map none), .val (.map none), .nilsl]),(210, .map hJ (Value.int .i64) (fun _=>none)),(211, .map hJ (Value.int .i64) (fun _=>none)),(212, .map hJ (Value.int .i64) (fun _=>none)),(213, .map hJ (Value.int .i64) (fun _=>none)),(214, .map hJ (Value.int .i64) (fun _=>none))]
 |6=>[(12, .box 156 [.pd (fi p q), .sl 0 ak sch, .int .i64 0, .mp 210, .mp 211, .mp 212, .mp 213, .mp 214, .mp 215, .val (.map none), .nilsl]),(210, .map hJ (Value.int .i64) (fun _=>none)),(211, .map hJ (Value.int .i64) (fun _=>none)),(212, .map hJ (Value.int .i64) (fun _=>none)),(213, .map hJ (Value.int .i64) (fun _=>none)),(214, .map hJ (Value.int .i64) (fun _=>none)),(215, .map hJ (Value.int .i64) (fun _=>none))]
 |7=>[(12, .box 156 [.pd (fi p q), .sl 0 ak sch, .int .i64 0, .mp 210, .mp 211, .mp 212, .mp 213, .mp 214, .mp 215, .mp 216, .nilsl]),(210, .map hJ (Value.int .i64) (fun _=>none)),(211, .map hJ (Value.int .i64) (fun _=>none)),(212, .map hJ (Value.int .i64) (fun _=>none)),(213, .map hJ (Value.int .i64) (fun _=>none)),(214, .map hJ (Value.int .i64) (fun _=>none)),(215, .map hJ (Value.int .i64) (fun _=>none)),(216, .map hJ (Value.int .i64) (fun _=>none))]
 |_=>[]
noncomputable abbrev MC (p:ap) (q:aJ) (sch:List Int) (vars:List Vb) (n:Nat):List (Nat×aU):=
 [(12, .box 156 [.pd (fi p q), .sl 0 ak sch, .int .i64 n, .mp 210, .mp 211, .mp 212, .mp 213, .mp 214, .mp 215, .mp 216, .nilsl]),(210, .map hJ (Value.int .i64) (mL vars 0 n)),(211, .map hJ (Value.int .i64) (mL vars 1 n)),(212, .map hJ (Value.int .i64) (mL vars 2 n)),(213, .map hJ (Value.int .i64) (mL vars 3 n)),(214, .map hJ (Value.int .i64) (mL vars 4 n)),(215, .map hJ (Value.int .i64) (mL vars 5 n)),(216, .map hJ (Value.int .i64) (mL vars 6 n))]
theorem Ow {vars:List Vb} {n:Nat} {k:Int} (h:(vars.getD n im).kind≠k):mL vars k (n+1)=mL vars k n:=by
 rw[mL,if_neg h]
theorem Ox {vars:List Vb} {n:Nat} {k:Int} (h:(vars.getD n im).kind=k):mL vars k (n+1)=uz (mL vars k n) ((vars.getD n im).seg,(vars.getD n im).idx) (n:Int):=by
 rw[mL,if_pos h]
theorem Qx (p:ap) (q:aJ) (sch:List Int) (hq:bF p q=0) (hs:dM (aA p.rules).length sch) (hk:∀n,n<(ao p q sch).length->0<=((ao p q sch).getD n im).kind/\((ao p q sch).getD n im).kind<7):
  aj Tryz.prog 83 [.pd (fi p q), .sl 0 ak sch] (ac.ofL [])
   (fun u M=>u= .ptr 200 0/\M=ac.ofL (dx p q sch (ao p q sch) [])):=by
 have hvl:=kw hq hs
 have hvf:=tO p q hq sch hs
 have hsl:=gf hs
 generalize ao p q sch=vars at*
 refine aj.renorm 400 (R:=fun u M=>u= .ptr 12 0/\bD [(200, .old 12),(201, .nil 2),(210, .old 210),(211, .old 211),(212, .old 212),(213, .old 213),(214, .old 214),(215, .old 215),(216, .old 216)] 400 M (dx p q sch vars [])) ?_ ?_
 case refine_2=>
  rintro u M ⟨rfl,hM⟩
  exact⟨[(200, .old 12),(201, .nil 2),(210, .old 210),(211, .old 211),(212, .old 212),(213, .old 213),(214, .old 214),(215, .old 215),(216, .old 216)],_, .ptr 200 0,rfl,hM,(aa),rfl,rfl⟩
 refine aj.intro ae ag [] Tryz.func83 rfl (by decide) ?_
 conv=>whnf
 refine yl ?_
 conv=>whnf
 refine a8.loopF ae ag (fun i:Nat=>i<=7) (fun i=>[(13, .int .i64 (i:Int))]) (fun i=>SX p q sch i) (fun i=>7-i) 0 (Nat.zero_le _) ?_;conv=>whnf
 refine⟨bd.by_ [(12, .old 12)] _ 400 rfl (aa) (aa),?_⟩
 rintro i hi
 obtain rfl|rfl|rfl|rfl|rfl|rfl|rfl|rfl:i=0\/i=1\/i=2\/i=3\/i=4\/i=5\/i=6\/i=7:=by omega
 ·conv=>whnf
  refine tI ?_
  conv=>whnf
  refine AH hJ (Value.int .i64) ?_
  conv=>whnf
  repeat' first|refine dt ?_;conv=>whnf|fail
  refine⟨1,?_,by omega,by dsimp only;omega⟩
  exact bd.by_ [(12, .old 12),(210, .old 18)] _ 400 rfl (aa) (aa)
 ·conv=>whnf
  refine tI ?_
  conv=>whnf
  refine AH hJ (Value.int .i64) ?_
  conv=>whnf
  repeat' first|refine dt ?_;conv=>whnf|fail
  refine⟨2,?_,by omega,by dsimp only;omega⟩
  exact bd.by_ [(12, .old 12),(210, .old 210),(211, .old 18)] _ 400 rfl (aa) (aa)
 ·conv=>whnf
  refine tI ?_
  conv=>whnf
  refine AH hJ (Value.int .i64) ?_
  conv=>whnf
  repeat' first|refine dt ?_;conv=>whnf|fail
  refine⟨3,?_,by omega,by dsimp only;omega⟩
  exact bd.by_ [(12, .old 12),(210, .old 210),(211, .old 211),(212, .old 18)] _ 400 rfl (aa) (aa)
 ·conv=>whnf
  refine tI ?_
  conv=>whnf
  refine AH hJ (Value.int .i64) ?_
  conv=>whnf
  repeat' first|refine dt ?_;conv=>whnf|fail
  refine⟨4,?_,by omega,by dsimp only;omega⟩
  exact bd.by_ [(12, .old 12),(210, .old 210),(211, .old 211),(212, .old 212),(213, .old 18)] _ 400 rfl (aa) (aa)
 ·conv=>whnf
  refine tI ?_
  conv=>whnf
  refine AH hJ (Value.int .i64) ?_
  conv=>whnf
  repeat' first|refine dt ?_;conv=>whnf|fail
  refine⟨5,?_,by omega,by dsimp only;omega⟩
  exact bd.by_ [(12, .old 12),(210, .old 210),(211, .old 211),(212, .old 212),(213, .old 213),(214, .old 18)] _ 400 rfl (aa) (aa)
 ·conv=>whnf
  refine tI ?_
  conv=>whnf
  refine AH hJ (Value.int .i64) ?_
  conv=>whnf
  repeat' first|refine dt ?_;conv=>whnf|fail
  refine⟨6,?_,by omega,by dsimp only;omega⟩
  exact bd.by_ [(12, .old 12),(210, .old 210),(211, .old 211),(212, .old 212),(213, .old 213),(214, .old 214),(215, .old 18)] _ 400 rfl (aa) (aa)
 ·conv=>whnf
  refine tI ?_
  conv=>whnf
  refine AH hJ (Value.int .i64) ?_
  conv=>whnf
  repeat' first|refine dt ?_;conv=>whnf|fail
  refine⟨7,?_,by omega,by dsimp only;omega⟩
  exact bd.by_ [(12, .old 12),(210, .old 210),(211, .old 211),(212, .old 212),(213, .old 213),(214, .old 214),(215, .old 215),(216, .old 18)] _ 400 rfl (aa) (aa)
 ·conv=>whnf
  refine fI ?_
  conv=>whnf
  (refine oP (hvf) ?_;conv=>whnf)
  refine a8.loopF ae ag (fun n:Nat=>n<=vars.length) (fun n=>[(27, .int .i64 (n:Int))]) (fun n=>MC p q sch vars n) (fun n=>vars.length-n) 0 (Nat.zero_le _) ?_;conv=>whnf
  refine⟨bd.by_ [(12, .old 12),(210, .old 210),(211, .old 211),(212, .old 212),(213, .old 213),(214, .old 214),(215, .old 215),(216, .old 216)] _ 400 rfl (aa) (aa),?_⟩
  rintro n hn
  conv=>whnf
  refine ai ?_ ?_<;>(intro h1;conv=>whnf)
  ·have hkn:=hk n (by omega)
   repeat' first|refine dt ?_;conv=>whnf|fail
   have hno:∀k:Int,((vars.getD n im).kind≠k)->mL vars k (n+1)=mL vars k n:=fun k=>Ow
   have hup:∀k:Int,((vars.getD n im).kind=k)->mL vars k (n+1)=uz (mL vars k n) ((vars.getD n im).seg,(vars.getD n im).idx) (n:Int):=fun k=>Ox
   rw[tN]
   generalize vars.getD n im=v at*
   obtain⟨kd,sg,ix⟩:=v
   dsimp only at hkn hno hup
   obtain rfl|rfl|rfl|rfl|rfl|rfl|rfl:kd=0\/kd=1\/kd=2\/kd=3\/kd=4\/kd=5\/kd=6:=by omega
   ·apply jq
    case k=>
     intro o1 o2 o3 o4 o5 o6
     refine mQ [0,1,3,4,5,7,9,11,12] (by decide+kernel) ?_
     conv=>whnf
     repeat' first
      |exact True.intro
      |(refine And.intro ?_ ?_<;>conv=>whnf)
      |(refine bp (by clear o1 o2 o3 o4 o5 o6;dsimp only;omega) ?_;conv=>whnf)
      |(refine AJ j5 (sg,ix) (n:Int) rfl rfl ?_;conv=>whnf)
      |with_reducible assumption
      |fail
    all_goals try first
     |exact True.intro
     |exact True
    all_goals
     repeat' first|refine dt ?_;conv=>whnf|fail
     refine⟨n+1,?_,by omega,by dsimp only;omega⟩
     dsimp only
     unfold MC
     rw[hno 1 (by decide),hno 2 (by decide),hno 3 (by decide),hno 4 (by decide),hno 5 (by decide),hno 6 (by decide),hup 0 rfl]
     exact bd.by_ [(12, .old 12),(210, .old 210),(211, .old 211),(212, .old 212),(213, .old 213),(214, .old 214),(215, .old 215),(216, .old 216)] _ 400 rfl (aa) (aa)
   ·apply jq
    case k=>
     intro o1 o2 o3 o4 o5 o6
     refine mQ [0,1,3,4,5,7,9,11,12] (by decide+kernel) ?_
     conv=>whnf
     repeat' first
      |exact True.intro
      |(refine And.intro ?_ ?_<;>conv=>whnf)
      |(refine bp (by clear o1 o2 o3 o4 o5 o6;dsimp only;omega) ?_;conv=>whnf)
      |(refine AJ j5 (sg,ix) (n:Int) rfl rfl ?_;conv=>whnf)
      |with_reducible assumption
      |fail
    all_goals try first
     |exact True.intro
     |exact True
    all_goals
     repeat' first|refine dt ?_;conv=>whnf|fail
     refine⟨n+1,?_,by omega,by dsimp only;omega⟩
     dsimp only
     unfold MC
     rw[hno 0 (by decide),hno 2 (by decide),hno 3 (by decide),hno 4 (by decide),hno 5 (by decide),hno 6 (by decide),hup 1 rfl]
     exact bd.by_ [(12, .old 12),(210, .old 210),(211, .old 211),(212, .old 212),(213, .old 213),(214, .old 214),(215, .old 215),(216, .old 216)] _ 400 rfl (aa) (aa)
   ·apply jq
    case k=>
     intro o1 o2 o3 o4 o5 o6
     refine mQ [0,1,3,4,5,7,9,11,12] (by decide+kernel) ?_
     conv=>whnf
     repeat' first
      |exact True.intro
      |(refine And.intro ?_ ?_<;>conv=>whnf)
      |(refine bp (by clear o1 o2 o3 o4 o5 o6;dsimp only;omega) ?_;conv=>whnf)
      |(refine AJ j5 (sg,ix) (n:Int) rfl rfl ?_;conv=>whnf)
      |with_reducible assumption
      |fail
    all_goals try first
     |exact True.intro
     |exact True
    all_goals
     repeat' first|refine dt ?_;conv=>whnf|fail
     refine⟨n+1,?_,by omega,by dsimp only;omega⟩
     dsimp only
     unfold MC
     rw[hno 0 (by decide),hno 1 (by decide),hno 3 (by decide),hno 4 (by decide),hno 5 (by decide),hno 6 (by decide),hup 2 rfl]
     exact bd.by_ [(12, .old 12),(210, .old 210),(211, .old 211),(212, .old 212),(213, .old 213),(214, .old 214),(215, .old 215),(216, .old 216)] _ 400 rfl (aa) (aa)
   ·apply jq
    case k=>
     intro o1 o2 o3 o4 o5 o6
     refine mQ [0,1,3,4,5,7,9,11,12] (by decide+kernel) ?_
     conv=>whnf
     repeat' first
      |exact True.intro
      |(refine And.intro ?_ ?_<;>conv=>whnf)
      |(refine bp (by clear o1 o2 o3 o4 o5 o6;dsimp only;omega) ?_;conv=>whnf)
      |(refine AJ j5 (sg,ix) (n:Int) rfl rfl ?_;conv=>whnf)
      |with_reducible assumption
      |fail
    all_goals try first
     |exact True.intro
     |exact True
    all_goals
     repeat' first|refine dt ?_;conv=>whnf|fail
     refine⟨n+1,?_,by omega,by dsimp only;omega⟩
     dsimp only
     unfold MC
     rw[hno 0 (by decide),hno 1 (by decide),hno 2 (by decide),hno 4 (by decide),hno 5 (by decide),hno 6 (by decide),hup 3 rfl]
     exact bd.by_ [(12, .old 12),(210, .old 210),(211, .old 211),(212, .old 212),(213, .old 213),(214, .old 214),(215, .old 215),(216, .old 216)] _ 400 rfl (aa) (aa)
   ·apply jq
    case k=>
     intro o1 o2 o3 o4 o5 o6
     refine mQ [0,1,3,4,5,7,9,11,12] (by decide+kernel) ?_
     conv=>whnf
     repeat' first
      |exact True.intro
      |(refine And.intro ?_ ?_<;>conv=>whnf)
      |(refine bp (by clear o1 o2 o3 o4 o5 o6;dsimp only;omega) ?_;conv=>whnf)
      |(refine AJ j5 (sg,ix) (n:Int) rfl rfl ?_;conv=>whnf)
      |with_reducible assumption
      |fail
    all_goals try first
     |exact True.intro
     |exact True
    all_goals
     repeat' first|refine dt ?_;conv=>whnf|fail
     refine⟨n+1,?_,by omega,by dsimp only;omega⟩
     dsimp only
     unfold MC
     rw[hno 0 (by decide),hno 1 (by decide),hno 2 (by decide),hno 3 (by decide),hno 5 (by decide),hno 6 (by decide),hup 4 rfl]
     exact bd.by_ [(12, .old 12),(210, .old 210),(211, .old 211),(212, .old 212),(213, .old 213),(214, .old 214),(215, .old 215),(216, .old 216)] _ 400 rfl (aa) (aa)
   ·apply jq
    case k=>
     intro o1 o2 o3 o4 o5 o6
     refine mQ [0,1,3,4,5,7,9,11,12] (by decide+kernel) ?_
     conv=>whnf
     repeat' first
      |exact True.intro
      |(refine And.intro ?_ ?_<;>conv=>whnf)
      |(refine bp (by clear o1 o2 o3 o4 o5 o6;dsimp only;omega) ?_;conv=>whnf)
      |(refine AJ j5 (sg,ix) (n:Int) rfl rfl ?_;conv=>whnf)
      |with_reducible assumption
      |fail
    all_goals try first
     |exact True.intro
     |exact True
    all_goals
     repeat' first|refine dt ?_;conv=>whnf|fail
     refine⟨n+1,?_,by omega,by dsimp only;omega⟩
     dsimp only
     unfold MC
     rw[hno 0 (by decide),hno 1 (by decide),hno 2 (by decide),hno 3 (by decide),hno 4 (by decide),hno 6 (by decide),hup 5 rfl]
     exact bd.by_ [(12, .old 12),(210, .old 210),(211, .old 211),(212, .old 212),(213, .old 213),(214, .old 214),(215, .old 215),(216, .old 216)] _ 400 rfl (aa) (aa)
   ·apply jq
    case k=>
     intro o1 o2 o3 o4 o5 o6
     refine mQ [0,1,3,4,5,7,9,11,12] (by decide+kernel) ?_
     conv=>whnf
     repeat' first
      |exact True.intro
      |(refine And.intro ?_ ?_<;>conv=>whnf)
      |(refine bp (by clear o1 o2 o3 o4 o5 o6;dsimp only;omega) ?_;conv=>whnf)
      |(refine AJ j5 (sg,ix) (n:Int) rfl rfl ?_;conv=>whnf)
      |with_reducible assumption
      |fail
    all_goals try first
     |exact True.intro
     |exact True
    all_goals
     repeat' first|refine dt ?_;conv=>whnf|fail
     refine⟨n+1,?_,by omega,by dsimp only;omega⟩
     dsimp only
     unfold MC
     rw[hno 0 (by decide),hno 1 (by decide),hno 2 (by decide),hno 3 (by decide),hno 4 (by decide),hno 5 (by decide),hup 6 rfl]
     exact bd.by_ [(12, .old 12),(210, .old 210),(211, .old 211),(212, .old 212),(213, .old 213),(214, .old 214),(215, .old 215),(216, .old 216)] _ 400 rfl (aa) (aa)
  ·obtain rfl:n=vars.length:=by omega
   exact⟨rfl,(aa)⟩
theorem vN {p:ap} {q:aJ} {sch:List Int} {v:Vb} (h:v∈ao p q sch):0<=v.kind/\v.kind<7:=by
 unfold ao at h
 rcases List.mem_append.1 h with h|h
 ·rcases List.mem_append.1 h with h|h
  ·simp only[List.mem_cons,List.not_mem_nil,or_false] at h
   rcases h with rfl|rfl|rfl<;>exact⟨by decide,by decide⟩
  ·unfold uF at h
   rcases List.mem_append.1 h with h|h
   ·obtain⟨x,_,rfl⟩:=List.mem_map.1 h
    exact⟨by dsimp only;omega,by dsimp only;omega⟩
   ·split at h
    ·obtain⟨x,_,rfl⟩:=List.mem_map.1 h
     exact⟨by dsimp only;omega,by dsimp only;omega⟩
    ·cases h
 ·obtain⟨j,_,h⟩:=List.mem_flatMap.1 h
  obtain⟨r,_,h⟩:=eJ h
  have:=(fC h).1
  omega
theorem zq {p:ap} (hv:aL p=0) (i:Nat) (hi:i<p.rules.length):(p.rules.getD i au).send.length<=60:=by
 have h:=gZ hv
 have h1:¬qy (p.rules.getD i au):=fun hb=>h (by unfold jZ;exact .inr (.inr (.inr (.inr (.inr (.inr (.inr (.inr (.inl ⟨i,hi,hb⟩)))))))))
 unfold qy at h1
 omega
def ip:List l7:=[⟨-1,1,0,0⟩,⟨0,1,-1,0⟩,⟨0,1,0,-1⟩]
def qM (vars:List Vb) (ls:List l7):List br:=ls.map fun l=>dj vars (uH l)
theorem pH (vars:List Vb) (ls:List l7) (l:l7):qM vars (ls++[l])=qM vars ls++[dj vars (uH l)]:=by unfold qM;rw[List.map_append];rfl
theorem vO (ls:List l7) (x:Nat) (hx:x<ls.length):ls.take (x+1)=ls.take x++[ls.getD (x:Int).toNat ik]:=by
 rw[tN,List.take_succ_eq_append_getElem hx,am ik hx]
def BG (p:ap) (sch:List Int) (vars:List Vb) (n:Nat):List br:=((List.range n).flatMap (lW p sch)).map (dj vars)
theorem zr (p:ap) (sch:List Int) (vars:List Vb) (n:Nat):BG p sch vars (n+1)=BG p sch vars n++(lW p sch n).map (dj vars):=by
 unfold BG
 rw[List.range_succ,List.flatMap_append,List.map_append]
 simp
theorem HT (p:ap) (q:aJ) (hq:bF p q=0) (sch:List Int) (hs:dM (aA p.rules).length sch) (number:Int) (hb:number<=1000000):ab Tryz.prog 38 [.pd (fi p q), .sl 0 ak sch, .int .i64 number]
  (fun u=>u= .agg [.int .i64 (ao p q sch).length, .sl av aE (eg p q sch number)]):=by
 have vq:=bf hq
 have hV:=vq.vld
 have w:=a9 hV
 have wl:=w.len
 have hT:=w.thr
 have hsl:=gf hs
 have hvl:=kw hq hs
 have hnd:=cL hq sch
 have hbeg:=Qx p q sch hq hs fun n hn=>vN (aH (l:=ao p q sch) im hn)
 have hpar:=fun rows (hr:rows.length<=1000000) l (hl:fP l)=>RO p q sch (ao p q sch) rows hnd (by omega) hr l hl
 have hsta:=fun rows (hr:rows.length<=1000000) kind hk l hl=>RT p q sch (ao p q sch) rows hnd (by omega) hr (by omega) kind hk l hl
 have hseg:=fun rows (hr:rows.length<=100000) j hj=>RY p q sch (ao p q sch) rows hnd (by omega) hr (by omega) (by omega) (fun i hi=>by have:=zq hV i hi;omega) (by omega) (fun g hg=>(xd hV hg).2) hs j hj
 have hvio:=fun rows (hr:rows.length<=100000) (m:Nat) (hm:m<=1000000)=>R0 p q sch (ao p q sch) rows hnd (by omega) hr (by omega) (by omega) (fun i hi=>by have:=zq hV i hi;omega) (by omega) hV
  (fun k=>⟨by have:=(vq.bad k).1;omega,fun i hi=>by
   have c:=qF vq k hi
   have:=bS c.1
   omega⟩)
  (by
   rcases vq.kind with k|k
   ·have:=vq.shp;omega
   ·have:=bS (vq.goal k).1;omega)
  (fun i hi=>⟨fun g hg=>(lB (w.rul i hi) hg).2,by have:=kD hV i hi;omega⟩) m hm
 have hbl:∀l∈ky p,fP l:=Hj hV
 have hblit:∀x:Nat,x<3->fP (ip.getD (x:Int).toNat ik):=fun x hx=>hbl _ (by
  unfold ky
  rw[tN]
  exact List.mem_append_left _ (List.mem_append_left _ (aH (l:=ip) ik hx)))
 have hbres:∀x:Nat,x<p.resilience.length->fP (p.resilience.getD (x:Int).toNat ik):=fun x hx=>hbl _ (by
  unfold ky
  rw[tN]
  exact List.mem_append_right _ (aH (l:=p.resilience) ik hx))
 have fB:∀a b c d:Int,-100<=a/\a<=100->-100<=b/\b<=100->-100<=c/\c<=100->-100<=d/\d<=100->fP ⟨a,b,c,d⟩:=fun a b c d h1 h2 h3 h4=>⟨h1,h2,h3,h4⟩
 have hsys:eg p q sch number=(qM (ao p q sch) (ky p)++(lV p).map (dj (ao p q sch))++BG p sch (ao p q sch) (sch.length+1))++(if 0<=number then(qI p q sch.length number.toNat).map (dj (ao p q sch)) else[]):=by
  unfold eg iQ qM BG
  rw[List.map_append,List.map_append,List.map_append,List.map_map]
  congr 1
  split<;>rfl
 have hsel:∀n,n<=sch.length+1->(BG p sch (ao p q sch) n).length<=20*n:=by
  intro n
  induction n with
  |zero=>intro _;simp[BG]
  |succ n ih=>
   intro hn
   rw[zr,List.length_append,List.length_map]
   have a:=ih (by omega)
   have:(lW p sch n).length<=20:=by
    unfold lW
    rw[List.length_append,List.length_append]
    split<;>split<;>simp<;>omega
   omega
 have hpal:(qM (ao p q sch) (ky p)).length<=9:=by unfold qM ky;rw[List.length_map,List.length_append,List.length_append];split<;>simp<;>omega
 have hstl:((lV p).map (dj (ao p q sch))).length<=4:=by unfold lV;rw[List.length_map,List.length_append];split<;>simp
 have hpe:ky p=ip++(if p.fault=0 then[⟨0,0,-1,0⟩,⟨0,0,0,-1⟩] else[])++p.resilience:=rfl
 rw[hsys]
 clear hsys hbl
 generalize hvv:ao p q sch=vars at*
 refine ab.intro ae ag Tryz.func38 rfl (by decide) ?_;(conv=>whnf)
 refine aj.news 400 dX (dx p q sch vars []) (.ptr 200 0) hbeg (aa) rfl (by rintro u M' ⟨rfl,rfl⟩;exact⟨(aa),(aa)⟩) ?_
 conv=>whnf
 refine c7 ik cV ip rfl ?_
 conv=>whnf
 refine a8.loopF ae ag (fun x:Nat=>x<=3) (fun x=>[(21, .int .i64 (x:Int))]) (fun x=>[(6, .box 46 [.int .i64 0, .nilsl]),(19, .row 182 ik cV ip)]++dx p q sch vars (qM vars (ip.take x))) (fun x=>3-x) 0 (Nat.zero_le _) ?_;conv=>whnf
 refine⟨bd.by_ ((6, .old 6)::(19, .old 19)::dX) _ 400 rfl (aa) (aa),?_⟩
 rintro x hx
 conv=>whnf
 refine ai ?_ ?_<;>(intro h1;conv=>whnf)
 ·have hx3:x<3:=by have:(ip.length:Int)=3:=rfl;omega
  have hc:=hpar (qM vars (ip.take x)) (by unfold qM;rw[List.length_map,List.length_take];omega) _ (hblit x hx3)
  rw[<-pH,<-vO ip x hx3] at hc
  repeat' first|refine dt ?_;conv=>whnf|fail
  refine aj.call dX (dx p q sch vars (qM vars (ip.take x))) 400 rfl (aa) (aa) hc ?_
  rintro u M' ⟨rfl,rfl⟩
  refine⟨xk,pD p q sch vars (qM vars (ip.take (x+1))), .tup [],rfl,(aa),trivial,?_⟩
  conv=>whnf
  repeat' first|refine dt ?_;conv=>whnf|fail
  refine⟨x+1,?_,by omega,by dsimp only;omega⟩
  exact bd.by_ [(6, .old 6),(19, .old 19),(200, .old 200),(201, .old 202),(210, .old 210),(211, .old 211),(212, .old 212),(213, .old 213),(214, .old 214),(215, .old 215),(216, .old 216)] _ 400 rfl (aa) (aa)
 ·obtain rfl:x=3:=by have:(ip.length:Int)=3:=rfl;omega
  rw[show ip.take 3=ip from rfl]
  obtain⟨LL,hLL⟩:∃LL:List l7,LL=ip++(if p.fault=0 then[⟨0,0,-1,0⟩,⟨0,0,0,-1⟩] else[]):=⟨_,rfl⟩
  have hL1:p.fault=0->LL=ip++([⟨0,0,-1,0⟩]++[⟨0,0,0,-1⟩]):=fun h=>by rw[hLL,if_pos h];rfl
  have hL2:¬p.fault=0->LL=ip:=fun h=>by rw[hLL,if_neg h,List.append_nil]
  have hLl:LL.length<=5:=by rw[hLL];unfold ip;split<;>simp
  rw[<-hLL] at hpe
  clear hLL
  apply once (A:=a8 Tryz.prog _ (.loop _) ([.pd (fi p q), .sl 0 ak sch, .int .i64 number, .top, .top, .top, .ptr 6 0, .ptr 200 0]++List.replicate 37 .top++[.sl ik cV p.resilience, .int .i64 (p.resilience.length:Int), .int .i64 0]++List.replicate 39 .top) (ac.ofL ((6, .box 46 [.int .i64 0, .nilsl])::dx p q sch vars (qM vars LL))) _)
  case k=>
   intro hs0
   refine ai (fun hf=>?_) (fun hf=>?_)
   rotate_left
   ·conv=>whnf
    exact a8.sub (by rw[hL2 hf];exact bd.by_ [(6, .old 6),(200, .old 200),(201, .old 201),(210, .old 210),(211, .old 211),(212, .old 212),(213, .old 213),(214, .old 214),(215, .old 215),(216, .old 216)] _ 400 rfl (aa) (aa)) hs0
   ·have c1:=hpar (qM vars ip) (by unfold qM ip;simp) ⟨0,0,-1,0⟩ (fB _ _ _ _ (by omega) (by omega) (by omega) (by omega))
    rw[<-pH] at c1
    have c2:=hpar (qM vars (ip++[⟨0,0,-1,0⟩])) (by unfold qM ip;simp) ⟨0,0,0,-1⟩ (fB _ _ _ _ (by omega) (by omega) (by omega) (by omega))
    rw[<-pH,List.append_assoc] at c2
    simp only[mm,nJ,b8,List.set]
    refine opsK_nil ?_
    refine rr rfl ?_
    refine codeK_seqI ?_
    refine codeK_regI ?_
    refine ops_hand (.ptr 200 0) rfl (fun K' h=>?_) rfl ?_
    ·conv=>whnf
     exact h
    refine ops_hand (.agg (cV ⟨0,0,-1,0⟩)) rfl (fun K' h=>?_) rfl ?_
    ·conv=>whnf
     exact h
    refine gQ rfl rfl ?_
    refine aj.call dX (dx p q sch vars (qM vars ip)) 400 rfl (aa) (aa) c1 ?_
    rintro u M' ⟨rfl,rfl⟩
    refine⟨xk,pD p q sch vars (qM vars (ip++[⟨0,0,-1,0⟩])), .tup [],rfl,(aa),trivial,?_⟩
    simp only[mm,nJ,b8,List.set]
    refine opsK_nil ?_
    refine codeK_regI ?_
    refine ops_hand (.ptr 200 0) rfl (fun K' h=>?_) rfl ?_
    ·conv=>whnf
     exact h
    refine ops_hand (.agg (cV ⟨0,0,0,-1⟩)) rfl (fun K' h=>?_) rfl ?_
    ·conv=>whnf
     exact h
    refine gQ rfl rfl ?_
    refine aj.call HR (dx p q sch vars (qM vars (ip++[⟨0,0,-1,0⟩]))) 400 rfl (aa) (aa) c2 ?_
    rintro u M' ⟨rfl,rfl⟩
    refine⟨Li,Re p q sch vars (qM vars (ip++([⟨0,0,-1,0⟩]++[⟨0,0,0,-1⟩]))), .tup [],rfl,(aa),trivial,?_⟩
    simp only[mm,nJ,b8,List.set]
    refine opsK_nil ?_
    conv=>whnf
    exact a8.sub (by rw[hL1 hf];exact bd.by_ [(6, .old 6),(200, .old 200),(201, .old 203),(210, .old 210),(211, .old 211),(212, .old 212),(213, .old 213),(214, .old 214),(215, .old 215),(216, .old 216)] _ 400 rfl (aa) (aa)) hs0
  case h=>
   refine a8.loopF ae ag (fun x:Nat=>x<=p.resilience.length) (fun x=>[(47, .int .i64 (x:Int))]) (fun x=>(6, .box 46 [.int .i64 0, .nilsl])::dx p q sch vars (qM vars (LL++p.resilience.take x))) (fun x=>p.resilience.length-x) 0 (Nat.zero_le _) ?_;conv=>whnf
   refine⟨by rw[List.take_zero,List.append_nil];exact bd.by_ ((6, .old 6)::dX) _ 400 rfl (aa) (aa),?_⟩
   rintro x hx
   conv=>whnf
   refine ai ?_ ?_<;>(intro h1;conv=>whnf)
   ·have hxl:x<p.resilience.length:=by omega
    have hc:=hpar (qM vars (LL++p.resilience.take x)) (by unfold qM;simp only[List.length_map,List.length_append,List.length_take];omega) _ (hbres x hxl)
    rw[<-pH,List.append_assoc,<-vO p.resilience x hxl] at hc
    repeat' first|refine dt ?_;conv=>whnf|fail
    refine aj.call dX (dx p q sch vars (qM vars (LL++p.resilience.take x))) 400 rfl (aa) (aa) hc ?_
    rintro u M' ⟨rfl,rfl⟩
    refine⟨xk,pD p q sch vars (qM vars (LL++p.resilience.take (x+1))), .tup [],rfl,(aa),trivial,?_⟩
    conv=>whnf
    repeat' first|refine dt ?_;conv=>whnf|fail
    refine⟨x+1,?_,by omega,by dsimp only;omega⟩
    exact bd.by_ [(6, .old 6),(200, .old 200),(201, .old 202),(210, .old 210),(211, .old 211),(212, .old 212),(213, .old 213),(214, .old 214),(215, .old 215),(216, .old 216)] _ 400 rfl (aa) (aa)
   ·obtain rfl:x=p.resilience.length:=by omega
    rw[List.take_length,<-hpe]
    generalize hPP:qM vars (ky p)=PA at*
    have c3:=hsta PA (by omega) 3 (by omega) ⟨0,1,0,-1⟩ (fB _ _ _ _ (by omega) (by omega) (by omega) (by omega))
    have hS1:lx p->(lV p).map (dj vars)=[dj vars (gh 3 p.states.length 1 ⟨0,1,0,-1⟩),dj vars (gh 3 p.states.length (-1) ⟨0,1,0,-1⟩)]++[dj vars (gh 4 p.states.length 1 ⟨0,0,0,1⟩),dj vars (gh 4 p.states.length (-1) ⟨0,0,0,1⟩)]:=fun h=>by unfold lV;rw[if_pos h];rfl
    have hS2:¬lx p->(lV p).map (dj vars)=[dj vars (gh 3 p.states.length 1 ⟨0,1,0,-1⟩),dj vars (gh 3 p.states.length (-1) ⟨0,1,0,-1⟩)]:=fun h=>by unfold lV;rw[if_neg h];rfl
    have c4:=hsta (PA++[dj vars (gh 3 p.states.length 1 ⟨0,1,0,-1⟩),dj vars (gh 3 p.states.length (-1) ⟨0,1,0,-1⟩)]) (by simp only[List.length_append,List.length_cons,List.length_nil];omega) 4 (by omega) ⟨0,0,0,1⟩ (fB _ _ _ _ (by omega) (by omega) (by omega) (by omega))
    rw[List.append_assoc] at c4
    generalize (lV p).map (dj vars)=SA at*
    refine aj.call dX (dx p q sch vars PA) 400 rfl (aa) (aa) c3 ?_
    rintro u M' ⟨rfl,rfl⟩
    refine⟨xk,pD p q sch vars (PA++[dj vars (gh 3 p.states.length 1 ⟨0,1,0,-1⟩),dj vars (gh 3 p.states.length (-1) ⟨0,1,0,-1⟩)]), .tup [],rfl,(aa),trivial,?_⟩
    conv=>whnf
    apply once (A:=a8 Tryz.prog _ (.loop _) ([.pd (fi p q), .sl 0 ak sch, .int .i64 number, .top, .top, .top, .ptr 6 0, .ptr 200 0]++List.replicate 57 .top++[.int .i64 ((sch.length:Int)+1), .int .i64 0]++List.replicate 20 .top) (ac.ofL ((6, .box 46 [.int .i64 0, .nilsl])::dx p q sch vars (PA++SA))) _)
    case k=>
     intro hs1
     refine dC (jo p q) (fun _=>?_) (fun _=>?_)<;>(conv=>whnf)
     ·rename_i hw
      rw[<-hS1 hw] at c4
      refine aj.call HR (dx p q sch vars (PA++[dj vars (gh 3 p.states.length 1 ⟨0,1,0,-1⟩),dj vars (gh 3 p.states.length (-1) ⟨0,1,0,-1⟩)])) 400 rfl (aa) (aa) c4 ?_
      rintro u M' ⟨rfl,rfl⟩
      refine⟨Li,Re p q sch vars (PA++SA), .tup [],rfl,(aa),trivial,?_⟩
      conv=>whnf
      repeat' first|refine dt ?_;conv=>whnf|fail
      exact a8.sub (bd.by_ [(6, .old 6),(200, .old 200),(201, .old 203),(210, .old 210),(211, .old 211),(212, .old 212),(213, .old 213),(214, .old 214),(215, .old 215),(216, .old 216)] _ 400 rfl (aa) (aa)) hs1
     ·rename_i hw
      repeat' first|refine dt ?_;conv=>whnf|fail
      exact a8.sub (by rw[hS2 hw];exact bd.by_ [(6, .old 6),(200, .old 200),(201, .old 202),(210, .old 210),(211, .old 211),(212, .old 212),(213, .old 213),(214, .old 214),(215, .old 215),(216, .old 216)] _ 400 rfl (aa) (aa)) hs1
    case h=>
     refine a8.loopF ae ag (fun x:Nat=>x<=sch.length+1) (fun x=>[(66, .int .i64 (x:Int))]) (fun x=>(6, .box 46 [.int .i64 0, .nilsl])::dx p q sch vars (PA++SA++BG p sch vars x)) (fun x=>sch.length+1-x) 0 (Nat.zero_le _) ?_;conv=>whnf
     refine⟨by rw[show BG p sch vars 0=[] from rfl,List.append_nil];exact bd.by_ ((6, .old 6)::dX) _ 400 rfl (aa) (aa),?_⟩
     rintro x hx
     conv=>whnf
     refine ai ?_ ?_<;>(intro h1;conv=>whnf)
     ·have hxl:x<=sch.length:=by omega
      have hc:=hseg (PA++SA++BG p sch vars x) (by have:=hsel x (by omega);simp only[List.length_append];omega) x hxl
      rw[List.append_assoc (PA++SA),<-zr] at hc
      repeat' first|refine dt ?_;conv=>whnf|fail
      refine aj.call dX (dx p q sch vars (PA++SA++BG p sch vars x)) 400 rfl (aa) (aa) hc ?_
      rintro u M' ⟨rfl,rfl⟩
      refine⟨xk,pD p q sch vars (PA++SA++BG p sch vars (x+1)), .tup [],rfl,(aa),trivial,?_⟩
      conv=>whnf
      repeat' first|refine dt ?_;conv=>whnf|fail
      refine⟨x+1,?_,by omega,by dsimp only;omega⟩
      exact bd.by_ [(6, .old 6),(200, .old 200),(201, .old 202),(210, .old 210),(211, .old 211),(212, .old 212),(213, .old 213),(214, .old 214),(215, .old 215),(216, .old 216)] _ 400 rfl (aa) (aa)
     ·obtain rfl:x=sch.length+1:=by omega
      have hse:=hsel (sch.length+1) (by omega)
      refine ai ?_ ?_<;>(intro hz;conv=>whnf)
      ·rw[if_pos hz]
       have hc:=hvio (PA++SA++BG p sch vars (sch.length+1)) (by simp only[List.length_append];omega) number.toNat (by omega)
       rw[Int.toNat_of_nonneg hz] at hc
       refine aj.call dX (dx p q sch vars (PA++SA++BG p sch vars (sch.length+1))) 400 rfl (aa) (aa) hc ?_
       rintro u M' ⟨rfl,rfl⟩
       refine⟨xk,pD p q sch vars (PA++SA++BG p sch vars (sch.length+1)++(qI p q sch.length number.toNat).map (dj vars)), .tup [],rfl,(aa),trivial,?_⟩
       conv=>whnf
       refine mP [0,1,2,4,5,6,8] (by decide+kernel) ?_
       conv=>whnf
       repeat' first
        |exact True.intro
        |(refine And.intro ?_ ?_<;>conv=>whnf)
        |exact rfl
        |fail
      ·rw[if_neg hz,List.append_nil]
       refine mP [0,1,2,4,5,6,8] (by decide+kernel) ?_
       conv=>whnf
       repeat' first
        |exact True.intro
        |(refine And.intro ?_ ?_<;>conv=>whnf)
        |exact rfl
        |fail
noncomputable def Ll (p:ap) (q:aJ) (sch:List Int) (number:Int):AV:=
 if dL p q≠0 then .tup [.agg [.int .i64 0, .nilsl], .int .i64 (dL p q)]
 else if¬dM (aA p.rules).length sch\/number< -1\/(w6 p q:Int)<=number then .tup [.agg [.int .i64 0, .nilsl], .int .i64 1]
 else .tup [.agg [.int .i64 (ao p q sch).length, .sl av aE (eg p q sch number)], .int .i64 0]
theorem HU (p:ap) (q:aJ) (hp:qz p) (hq:Bj q) (sch:List Int) (hl:sch.length<=140737488355328) (number:Int):ab Tryz.prog 26 [.agg (dg p), .agg (mK q), .sl 0 ak sch, .int .i64 number] (fun u=>u=Ll p q sch number):=by
 have he:=Ll.eq_1 p q sch number
 refine ab.intro ae ag Tryz.func26 rfl (by decide) ?_;(conv=>whnf)
 refine ar rfl ?_
 conv=>whnf
 refine ar rfl ?_
 conv=>whnf
 refine aj.of_pure (n:=5) (vG p q hp hq) (by rfl) ?_
 rintro _ rfl
 by_cases h:dL p q=0
 ·rw[if_neg (by omega)] at he
  rw[jR h]
  have hcs:=Hz h
  conv=>whnf
  refine fI ?_
  conv=>whnf
  refine dC (qK p q sch hl) (fun _=>?_) (fun _=>?_)<;>(conv=>whnf)
  ·rename_i hs
   refine ai ?_ ?_<;>(intro h1;conv=>whnf)
   ·rw[if_pos (.inr (.inl h1))] at he
    exact⟨he.symm,rfl⟩
   refine ai ?_ ?_<;>(intro h2;conv=>whnf)
   ·rw[if_pos (.inr (.inr (by omega)))] at he
    exact⟨he.symm,rfl⟩
   rw[if_neg (fun hh=>by rcases hh with hh|hh|hh;exact hh hs;omega;omega)] at he
   (refine oP (HT p q (eM h) sch hs number (by omega)) ?_;conv=>whnf)
   exact⟨he.symm,rfl⟩
  ·rename_i hs
   rw[if_pos (.inl hs)] at he
   exact⟨he.symm,rfl⟩
 ·rw[if_pos h] at he
  rw[g9 rfl h]
  conv=>whnf
  refine dQ h ?_
  conv=>whnf
  exact⟨he.symm,rfl⟩
end Go.Proofs.YtekmminpfhacpaaGreatDoor
