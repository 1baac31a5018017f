import Derived.Test.YtekmminpfhacpaaGreatDoorW2
set_option linter.unusedVariables false
set_option linter.unusedSimpArgs false
namespace Go.Proofs.YtekmminpfhacpaaGreatDoor
set_option maxRecDepth 100000
set_option maxHeartbeats 16000000
def J5:bc:=[(200, .old 200),(202, .old 201),(203, .old 202),(210, .old 210),(211, .old 211),(212, .old 212),(213, .old 213),(214, .old 214),(215, .old 215),(216, .old 216)]
def QI:bc:=[(200, .old 200),(201, .old 201),(202, .old 203),(210, .old 210),(211, .old 211),(212, .old 212),(213, .old 213),(214, .old 214),(215, .old 215),(216, .old 216)]
noncomputable abbrev Pq (p:av) (q:aP) (sch:List Int) (vars:List Vb) (rows:List aV):List (Nat×bf):=
 [(200, .box 156 (KV p q sch vars.length 203 rows.length)),(202, .dead),(203, .row 161 ar aw rows),(210,gR vars 0),(211,gR vars 1),(212,gR vars 2),(213,gR vars 3),(214,gR vars 4),(215,gR vars 5),(216,gR vars 6)]
def oL (goal:List Int) (x:Nat):List Int:=((List.range x).map fun x:Nat=>(x:Int)).filter fun x=>decide (x∉goal)
theorem CV (goal:List Int):oL goal 0=[]:=rfl
theorem CW (goal:List Int) (x:Nat):oL goal (x+1)=oL goal x++if(x:Int)∈goal then[] else[(x:Int)]:=by
 unfold oL
 rw[List.range_succ,List.map_append,List.filter_append]
 congr 1
 by_cases h:(x:Int)∈goal<;>simp[h]
theorem G8 (goal:List Int) (x:Nat):(oL goal x).length<=x:=by
 unfold oL
 have:=List.length_filter_le (fun x=>decide (x∉goal)) ((List.range x).map fun x:Nat=>(x:Int))
 simpa using this
theorem P2 (p:av) (q:aP) (sch:List Int) (vars:List Vb) (rows:List aV) (hn:vars.Nodup) (hv:vars.length<=1000000) (hr:rows.length<=100000) (hst:p.states.length<=1000) (hrl:p.rules.length<=1000) (hsd:∀i,i<p.rules.length->(p.rules.getD i ax).send.length<=1000000) (hsl:sch.length<=9)
  (hV:aX p=0) (hbad:q.kind=1->q.bad.length<=1000/\∀i,i<q.bad.length->(q.bad.getD i b9).states.length<=10000/\0<=(q.bad.getD i b9).least/\(q.bad.getD i b9).least<=1000) (hgo:q.goal.length<=1000000)
  (hg:∀i,i<p.rules.length->(∀g∈(p.rules.getD i ax).guards,(1<=g.coef/\g.coef<=100)/\eY g.bound)/\(p.rules.getD i ax).guards.length<=1000) (number:Nat) (hnu:number<=1000000):
  aj Tryz.prog 110 [.ptr 200 0, .int .i64 (number:Int)] (ag.ofL (fT p q sch vars rows))
   (fun u M=>u= .tup []/\M=ag.ofL (px p q sch vars (rows++(oj p q sch.length number).map (aQ vars)))):=by
 refine aj.renorm 400 (R:=fun u M=>u= .tup []/\bG xr 400 M (px p q sch vars (rows++(oj p q sch.length number).map (aQ vars)))) ?_ ?_
 case refine_2=>
  rintro u M ⟨rfl,hM⟩
  exact⟨xr,_, .tup [],rfl,hM,trivial,rfl,rfl⟩
 have hch:=JW p q hV number hnu
 by_cases hk:q.kind=1
 ·obtain⟨hbl,hbad⟩:=hbad hk
  obtain⟨R,hR⟩:∃R:Nat->List aV,R=fun x=>rows++(q.bad.take x).map fun c=>aQ vars (uP p sch.length c.states c.least):=⟨_,rfl⟩
  have hR0:R 0=rows:=by rw[hR];simp
  have hRn:∀x,x<q.bad.length->R (x+1)=R x++[aQ vars (uP p sch.length (q.bad.getD (x:Int).toNat b9).states (q.bad.getD (x:Int).toNat b9).least)]:=fun x hx=>by
   rw[hR,tN]
   dsimp only
   rw[List.take_succ_eq_append_getElem hx,List.map_append,<-List.append_assoc,ap b9 hx]
   rfl
  have hRl:∀x,x<=q.bad.length->(R x).length<=102000:=fun x hx=>by
   rw[hR];simp only[List.length_append,List.length_map,List.length_take];omega
  have hend:rows++(oj p q sch.length number).map (aQ vars)=R q.bad.length:=by
   rw[hR];dsimp only;rw[List.take_length];unfold oj;rw[if_pos hk,List.map_map];rfl
  rw[hend]
  have ha:=fun x (hx:x<q.bad.length)=>Oz p q sch vars (R x) hn hv (by have:=hRl x (by omega);omega) hrl (by omega) (q.bad.getD (x:Int).toNat b9).states (by rw[tN];exact(hbad x hx).1) (q.bad.getD (x:Int).toNat b9).least (by rw[tN];exact(hbad x hx).2)
  have ha:∀x,x<q.bad.length->aj Tryz.prog 198 [.ptr 200 0, .sl 0 al (q.bad.getD (x:Int).toNat b9).states, .int .i64 (q.bad.getD (x:Int).toNat b9).least] (ag.ofL (fT p q sch vars (R x)))
    (fun u M=>u= .tup []/\M=ag.ofL (px p q sch vars (R (x+1)))):=fun x hx=>by rw[hRn x hx];exact ha x hx
  clear hR hRn hend
  refine aj.intro ab ac (fT p q sch vars rows) Tryz.func110 rfl (by decide) ?_
  conv=>whnf
  refine cO hk ?_
  conv=>whnf
  refine aJ.loopF ab ac (fun x:Nat=>x<=q.bad.length) (fun x=>[(28, .int .i64 (x:Int))]) (fun x=>px p q sch vars (R x)) (fun x=>q.bad.length-x) 0 (Nat.zero_le _) ?_;conv=>whnf
  refine⟨by rw[hR0];exact aH.by_ PV _ 400 rfl (aa) (aa),?_⟩
  rintro x hx
  conv=>whnf
  refine ae ?_ ?_<;>(intro h1;conv=>whnf)
  ·have ha1:=ha x (by omega)
   repeat' first|refine dt ?_;conv=>whnf|fail
   refine aj.call G6 (fT p q sch vars (R x)) 400 rfl (aa) (aa) ha1 ?_
   rintro u M' ⟨rfl,rfl⟩
   refine⟨J5,Pq p q sch vars (R (x+1)), .tup [],rfl,(aa),trivial,?_⟩
   conv=>whnf
   repeat' first|refine dt ?_;conv=>whnf|fail
   refine⟨x+1,?_,by omega,by dsimp only;omega⟩
   exact aH.by_ QI _ 400 rfl (aa) (aa)
  ·obtain rfl:x=q.bad.length:=by omega
   exact⟨rfl,(aa)⟩
 ·rw[if_neg hk] at hch
  obtain⟨R,hR⟩:∃R:Nat->List aV,R=fun x=>rows++(uP p sch.length (Bk p q) 1::(List.range x).map fun i=>rF p sch.length (p.rules.getD i ax) ((rk p number).getD i 0)).map (aQ vars):=⟨_,rfl⟩
  have hR0:R 0=rows++[aQ vars (uP p sch.length (oL q.goal p.states.length) 1)]:=by rw[hR];rfl
  have hRn:∀x,R (x+1)=R x++[aQ vars (rF p sch.length (p.rules.getD x ax) ((rk p number).getD (x:Int).toNat 0))]:=fun x=>by
   rw[hR,tN]
   dsimp only
   rw[List.range_succ]
   simp only[List.map_append,List.map_cons,List.map_nil,List.append_assoc,List.cons_append]
  have hRl:∀x,x<=p.rules.length->(R x).length<=102000:=fun x hx=>by
   rw[hR];simp only[List.length_append,List.length_map,List.length_cons,List.length_range];omega
  have hend:rows++(oj p q sch.length number).map (aQ vars)=R p.rules.length:=by
   rw[hR];unfold oj;rw[if_neg hk]
  rw[hend]
  have hi:∀x,x<p.rules.length->aj Tryz.prog 200 [.ptr 200 0, .int .i64 (x:Int), .int .i64 ((rk p number).getD (x:Int).toNat 0)] (ag.ofL (fT p q sch vars (R x)))
    (fun u M=>u= .tup []/\M=ag.ofL (px p q sch vars (R (x+1)))):=fun x hx=>by
   rw[hRn x]
   have hc:(rk p number).getD (x:Int).toNat 0=(Bi p.rules number x:Int):=by rw[tN];exact rX hx
   have:=Bj p.rules number x
   exact P1 p q sch vars (R x) hn hv (by have:=hRl x (by omega);omega) hrl hsd hsl x hx (hg x hx).1 (hg x hx).2 _ (by rw[hc];omega)
  have hol:=G8 q.goal
  have ha:=Oz p q sch vars rows hn hv (by omega) hrl (by omega) (oL q.goal p.states.length) (by have:=hol p.states.length;omega) 1 (by omega)
  rw[<-hR0] at ha
  have hO0:=CV q.goal
  have hOn:=CW q.goal
  have hcl:=lu p number
  clear hR hR0 hRn hend
  generalize hO:oL q.goal=O at*
  generalize rk p number=C at*
  clear hO
  refine aj.intro ab ac (fT p q sch vars rows) Tryz.func110 rfl (by decide) ?_
  conv=>whnf
  refine cX hk ?_
  conv=>whnf
  refine aJ.loopF ab ac (fun x:Nat=>x<=p.states.length) (fun x=>[(6, .row 230 (O x).length 1),(48, .int .i64 (x:Int))]) (fun x=>fT p q sch vars rows++[(230, .row 3 0 al (O x))]) (fun x=>p.states.length-x) 0 (Nat.zero_le _) ?_;conv=>whnf
  refine⟨by rw[hO0];exact aH.by_ (gS++[(230, .nil 1)]) _ 400 rfl (aa) (aa),?_⟩
  rintro x hx
  conv=>whnf
  refine ae ?_ ?_<;>(intro h1;conv=>whnf)
  ·have hO1:=hOn x
   have hl1:=hol x
   repeat' first|refine dt ?_;conv=>whnf|fail
   refine dC (dB q.goal (x:Int) (by omega)) (fun _=>?_) (fun _=>?_)<;>(conv=>whnf)
   ·rename_i hm
    rw[if_pos hm,List.append_nil] at hO1
    repeat' first|refine dt ?_;conv=>whnf|fail
    refine⟨x+1,?_,by omega,by dsimp only;omega⟩
    dsimp only
    rw[hO1]
    exact aH.by_ (gS++[(230, .old 230)]) _ 400 rfl (aa) (aa)
   ·rename_i hm
    rw[if_neg hm] at hO1
    repeat' first|refine dt ?_;conv=>whnf|fail
    refine bq [(x:Int)] rfl lI ?_
    conv=>whnf
    repeat' first|refine dt ?_;conv=>whnf|fail
    refine⟨x+1,?_,by omega,by dsimp only;omega⟩
    dsimp only
    rw[hO1]
    exact aH.by_ (gS++[(230, .old 65)]) _ 400 rfl (aa) (aa)
  ·obtain rfl:x=p.states.length:=by omega
   repeat' first|refine dt ?_;conv=>whnf|fail
   refine aj.hand 230 rfl ?_
   conv=>whnf
   refine aj.call gS (fT p q sch vars rows) 400 rfl (aa) (aa) ha ?_
   rintro u M' ⟨rfl,rfl⟩
   refine⟨xr,px p q sch vars (R 0), .tup [],rfl,(aa),trivial,?_⟩
   conv=>whnf
   repeat' first|refine dt ?_;conv=>whnf|fail
   (refine oP (hch) ?_;conv=>whnf)
   refine aJ.loopF ab ac (fun x:Nat=>x<=p.rules.length) (fun x=>[(6, .top),(68, .top),(77, .int .i64 (x:Int))]) (fun x=>px p q sch vars (R x)) (fun x=>p.rules.length-x) 0 (Nat.zero_le _) ?_;conv=>whnf
   refine⟨aH.by_ xr _ 400 rfl (aa) (aa),?_⟩
   rintro x hx
   conv=>whnf
   refine ae ?_ ?_<;>(intro h1;conv=>whnf)
   ·have hi1:=hi x (by omega)
    repeat' first|refine dt ?_;conv=>whnf|fail
    refine aj.call G6 (fT p q sch vars (R x)) 400 rfl (aa) (aa) hi1 ?_
    rintro u M' ⟨rfl,rfl⟩
    refine⟨J5,Pq p q sch vars (R (x+1)), .tup [],rfl,(aa),trivial,?_⟩
    conv=>whnf
    repeat' first|refine dt ?_;conv=>whnf|fail
    refine⟨x+1,?_,by omega,by dsimp only;omega⟩
    exact aH.by_ QI _ 400 rfl (aa) (aa)
   ·obtain rfl:x=p.rules.length:=by omega
    exact⟨rfl,(aa)⟩
def Q0 (p:av) (q:aP) (sch:List Int):Nat->List (Nat×bf)
 |0=>[(12, .box 156 [.pd (fE p q), .sl 0 al sch, .int .i64 0, .val (.map none), .val (.map none), .val (.map none), .val (.map none), .val (.map none), .val (.map none), .val (.map none), .nilsl])]
 |1=>[(12, .box 156 [.pd (fE p q), .sl 0 al sch, .int .i64 0, .mp 210, .val (.map none), .val (.map none), .val (.map none), .val (.map none), .val (.map none), .val (.map none), .nilsl]),(210, .map io (Value.int .i64) (fun _=>none))]
 |2=>[(12, .box 156 [.pd (fE p q), .sl 0 al sch, .int .i64 0, .mp 210, .mp 211, .val (.map none), .val (.map none), .val (.map none), .val (.map none), .val (.map none), .nilsl]),(210, .map io (Value.int .i64) (fun _=>none)),(211, .map io (Value.int .i64) (fun _=>none))]
 |3=>[(12, .box 156 [.pd (fE p q), .sl 0 al sch, .int .i64 0, .mp 210, .mp 211, .mp 212, .val (.map none), .val (.map none), .val (.map none), .val (.map none), .nilsl]),(210, .map io (Value.int .i64) (fun _=>none)),(211, .map io (Value.int .i64) (fun _=>none)),(212, .map io (Value.int .i64) (fun _=>none))]
 |4=>[(12, .box 156 [.pd (fE p q), .sl 0 al sch, .int .i64 0, .mp 210, .mp 211, .mp 212, .mp 213, .val (.map none), .val (.map none), .val (.map none), .nilsl]),(210, .map io (Value.int .i64) (fun _=>none)),(211, .map io (Value.int .i64) (fun _=>none)),(212, .map io (Value.int .i64) (fun _=>none)),(213, .map io (Value.int .i64) (fun _=>none))]
 |5=>[(12, .box 156 [.pd (fE p q), .sl 0 al sch, .int .i64 0, .mp 210, .mp 211, .mp 212, .mp 213, .mp 214, .val (.map none), .val (.map none), .nilsl]),(210, .map io (Value.int .i64) (fun _=>none)),(211, .map io (Value.int .i64) (fun _=>none)),(212, .map io (Value.int .i64) (fun _=>none)),(213, .map io (Value.int .i64) (fun _=>none)),(214, .map io (Value.int .i64) (fun _=>none))]
 |6=>[(12, .box 156 [.pd (fE p q), .sl 0 al sch, .int .i64 0, .mp 210, .mp 211, .mp 212, .mp 213, .mp 214, .mp 215, .val (.map none), .nilsl]),(210, .map io (Value.int .i64) (fun _=>none)),(211, .map io (Value.int .i64) (fun _=>none)),(212, .map io (Value.int .i64) (fun _=>none)),(213, .map io (Value.int .i64) (fun _=>none)),(214, .map io (Value.int .i64) (fun _=>none)),(215, .map io (Value.int .i64) (fun _=>none))]
 |7=>[(12, .box 156 [.pd (fE p q), .sl 0 al sch, .int .i64 0, .mp 210, .mp 211, .mp 212, .mp 213, .mp 214, .mp 215, .mp 216, .nilsl]),(210, .map io (Value.int .i64) (fun _=>none)),(211, .map io (Value.int .i64) (fun _=>none)),(212, .map io (Value.int .i64) (fun _=>none)),(213, .map io (Value.int .i64) (fun _=>none)),(214, .map io (Value.int .i64) (fun _=>none)),(215, .map io (Value.int .i64) (fun _=>none)),(216, .map io (Value.int .i64) (fun _=>none))]
 |_=>[]
noncomputable abbrev KW (p:av) (q:aP) (sch:List Int) (vars:List Vb) (n:Nat):List (Nat×bf):=
 [(12, .box 156 [.pd (fE p q), .sl 0 al sch, .int .i64 n, .mp 210, .mp 211, .mp 212, .mp 213, .mp 214, .mp 215, .mp 216, .nilsl]),(210, .map io (Value.int .i64) (qy vars 0 n)),(211, .map io (Value.int .i64) (qy vars 1 n)),(212, .map io (Value.int .i64) (qy vars 2 n)),(213, .map io (Value.int .i64) (qy vars 3 n)),(214, .map io (Value.int .i64) (qy vars 4 n)),(215, .map io (Value.int .i64) (qy vars 5 n)),(216, .map io (Value.int .i64) (qy vars 6 n))]
theorem Mw {vars:List Vb} {n:Nat} {k:Int} (h:(vars.getD n d8).kind≠k):qy vars k (n+1)=qy vars k n:=by
 rw[qy,if_neg h]
theorem Mx {vars:List Vb} {n:Nat} {k:Int} (h:(vars.getD n d8).kind=k):qy vars k (n+1)=uK (qy vars k n) ((vars.getD n d8).seg,(vars.getD n d8).idx) (n:Int):=by
 rw[qy,if_pos h]
theorem P5 (p:av) (q:aP) (sch:List Int) (hq:bD p q=0) (hs:dS (ay p.rules).length sch) (hk:∀n,n<(az p q sch).length->0<=((az p q sch).getD n d8).kind/\((az p q sch).getD n d8).kind<7):
  aj Tryz.prog 83 [.pd (fE p q), .sl 0 al sch] (ag.ofL [])
   (fun u M=>u= .ptr 200 0/\M=ag.ofL (fT p q sch (az p q sch) [])):=by
 have hvl:=iE hq hs
 have hvf:=tT p q hq sch hs
 have hsl:=cu hs
 generalize az p q sch=vars at*
 refine aj.renorm 400 (R:=fun u M=>u= .ptr 12 0/\bG [(200, .old 12),(201, .nil 2),(210, .old 210),(211, .old 211),(212, .old 212),(213, .old 213),(214, .old 214),(215, .old 215),(216, .old 216)] 400 M (fT p q sch vars [])) ?_ ?_
 case refine_2=>
  rintro u M ⟨rfl,hM⟩
  exact⟨[(200, .old 12),(201, .nil 2),(210, .old 210),(211, .old 211),(212, .old 212),(213, .old 213),(214, .old 214),(215, .old 215),(216, .old 216)],_, .ptr 200 0,rfl,hM,(aa),rfl,rfl⟩
 refine aj.intro ab ac [] Tryz.func83 rfl (by decide) ?_
 conv=>whnf
 refine DM ?_
 conv=>whnf
 refine aJ.loopF ab ac (fun i:Nat=>i<=7) (fun i=>[(13, .int .i64 (i:Int))]) (fun i=>Q0 p q sch i) (fun i=>7-i) 0 (Nat.zero_le _) ?_;conv=>whnf
 refine⟨aH.by_ [(12, .old 12)] _ 400 rfl (aa) (aa),?_⟩
 rintro i hi
 obtain rfl|rfl|rfl|rfl|rfl|rfl|rfl|rfl:i=0\/i=1\/i=2\/i=3\/i=4\/i=5\/i=6\/i=7:=by omega
 ·conv=>whnf
  refine tI ?_
  conv=>whnf
  refine AM io (Value.int .i64) ?_
  conv=>whnf
  repeat' first|refine dt ?_;conv=>whnf|fail
  refine⟨1,?_,by omega,by dsimp only;omega⟩
  exact aH.by_ [(12, .old 12),(210, .old 18)] _ 400 rfl (aa) (aa)
 ·conv=>whnf
  refine tI ?_
  conv=>whnf
  refine AM io (Value.int .i64) ?_
  conv=>whnf
  repeat' first|refine dt ?_;conv=>whnf|fail
  refine⟨2,?_,by omega,by dsimp only;omega⟩
  exact aH.by_ [(12, .old 12),(210, .old 210),(211, .old 18)] _ 400 rfl (aa) (aa)
 ·conv=>whnf
  refine tI ?_
  conv=>whnf
  refine AM io (Value.int .i64) ?_
  conv=>whnf
  repeat' first|refine dt ?_;conv=>whnf|fail
  refine⟨3,?_,by omega,by dsimp only;omega⟩
  exact aH.by_ [(12, .old 12),(210, .old 210),(211, .old 211),(212, .old 18)] _ 400 rfl (aa) (aa)
 ·conv=>whnf
  refine tI ?_
  conv=>whnf
  refine AM io (Value.int .i64) ?_
  conv=>whnf
  repeat' first|refine dt ?_;conv=>whnf|fail
  refine⟨4,?_,by omega,by dsimp only;omega⟩
  exact aH.by_ [(12, .old 12),(210, .old 210),(211, .old 211),(212, .old 212),(213, .old 18)] _ 400 rfl (aa) (aa)
 ·conv=>whnf
  refine tI ?_
  conv=>whnf
  refine AM io (Value.int .i64) ?_
  conv=>whnf
  repeat' first|refine dt ?_;conv=>whnf|fail
  refine⟨5,?_,by omega,by dsimp only;omega⟩
  exact aH.by_ [(12, .old 12),(210, .old 210),(211, .old 211),(212, .old 212),(213, .old 213),(214, .old 18)] _ 400 rfl (aa) (aa)
 ·conv=>whnf
  refine tI ?_
  conv=>whnf
  refine AM io (Value.int .i64) ?_
  conv=>whnf
  repeat' first|refine dt ?_;conv=>whnf|fail
  refine⟨6,?_,by omega,by dsimp only;omega⟩
  exact aH.by_ [(12, .old 12),(210, .old 210),(211, .old 211),(212, .old 212),(213, .old 213),(214, .old 214),(215, .old 18)] _ 400 rfl (aa) (aa)
 ·conv=>whnf
  refine tI ?_
  conv=>whnf
  refine AM io (Value.int .i64) ?_
  conv=>whnf
  repeat' first|refine dt ?_;conv=>whnf|fail
  refine⟨7,?_,by omega,by dsimp only;omega⟩
  exact aH.by_ [(12, .old 12),(210, .old 210),(211, .old 211),(212, .old 212),(213, .old 213),(214, .old 214),(215, .old 215),(216, .old 18)] _ 400 rfl (aa) (aa)
 ·conv=>whnf
  refine fI ?_
  conv=>whnf
  (refine oP (hvf) ?_;conv=>whnf)
  refine aJ.loopF ab ac (fun n:Nat=>n<=vars.length) (fun n=>[(27, .int .i64 (n:Int))]) (fun n=>KW p q sch vars n) (fun n=>vars.length-n) 0 (Nat.zero_le _) ?_;conv=>whnf
  refine⟨aH.by_ [(12, .old 12),(210, .old 210),(211, .old 211),(212, .old 212),(213, .old 213),(214, .old 214),(215, .old 215),(216, .old 216)] _ 400 rfl (aa) (aa),?_⟩
  rintro n hn
  conv=>whnf
  refine ae ?_ ?_<;>(intro h1;conv=>whnf)
  ·have hkn:=hk n (by omega)
   repeat' first|refine dt ?_;conv=>whnf|fail
   have hno:∀k:Int,((vars.getD n d8).kind≠k)->qy vars k (n+1)=qy vars k n:=fun k=>Mw
   have hup:∀k:Int,((vars.getD n d8).kind=k)->qy vars k (n+1)=uK (qy vars k n) ((vars.getD n d8).seg,(vars.getD n d8).idx) (n:Int):=fun k=>Mx
   rw[tN]
   generalize vars.getD n d8=v at*
   obtain⟨kd,sg,ix⟩:=v
   dsimp only at hkn hno hup
   obtain rfl|rfl|rfl|rfl|rfl|rfl|rfl:kd=0\/kd=1\/kd=2\/kd=3\/kd=4\/kd=5\/kd=6:=by omega
   ·apply c5
    case k=>
     intro o1 o2 o3 o4 o5 o6
     refine oo [0,1,3,4,5,7,9,11,12] (by decide+kernel) ?_
     conv=>whnf
     repeat' first
      |exact True.intro
      |(refine And.intro ?_ ?_<;>conv=>whnf)
      |(refine bg (by clear o1 o2 o3 o4 o5 o6;dsimp only;omega) ?_;conv=>whnf)
      |(refine AN mJ (sg,ix) (n:Int) rfl rfl ?_;conv=>whnf)
      |with_reducible assumption
      |fail
    all_goals try first
     |exact True.intro
     |exact True
    all_goals
     repeat' first|refine dt ?_;conv=>whnf|fail
     refine⟨n+1,?_,by omega,by dsimp only;omega⟩
     dsimp only
     unfold KW
     rw[hno 1 (by decide),hno 2 (by decide),hno 3 (by decide),hno 4 (by decide),hno 5 (by decide),hno 6 (by decide),hup 0 rfl]
     exact aH.by_ [(12, .old 12),(210, .old 210),(211, .old 211),(212, .old 212),(213, .old 213),(214, .old 214),(215, .old 215),(216, .old 216)] _ 400 rfl (aa) (aa)
   ·apply c5
    case k=>
     intro o1 o2 o3 o4 o5 o6
     refine oo [0,1,3,4,5,7,9,11,12] (by decide+kernel) ?_
     conv=>whnf
     repeat' first
      |exact True.intro
      |(refine And.intro ?_ ?_<;>conv=>whnf)
      |(refine bg (by clear o1 o2 o3 o4 o5 o6;dsimp only;omega) ?_;conv=>whnf)
      |(refine AN mJ (sg,ix) (n:Int) rfl rfl ?_;conv=>whnf)
      |with_reducible assumption
      |fail
    all_goals try first
     |exact True.intro
     |exact True
    all_goals
     repeat' first|refine dt ?_;conv=>whnf|fail
     refine⟨n+1,?_,by omega,by dsimp only;omega⟩
     dsimp only
     unfold KW
     rw[hno 0 (by decide),hno 2 (by decide),hno 3 (by decide),hno 4 (by decide),hno 5 (by decide),hno 6 (by decide),hup 1 rfl]
     exact aH.by_ [(12, .old 12),(210, .old 210),(211, .old 211),(212, .old 212),(213, .old 213),(214, .old 214),(215, .old 215),(216, .old 216)] _ 400 rfl (aa) (aa)
   ·apply c5
    case k=>
     intro o1 o2 o3 o4 o5 o6
     refine oo [0,1,3,4,5,7,9,11,12] (by decide+kernel) ?_
     conv=>whnf
     repeat' first
      |exact True.intro
      |(refine And.intro ?_ ?_<;>conv=>whnf)
      |(refine bg (by clear o1 o2 o3 o4 o5 o6;dsimp only;omega) ?_;conv=>whnf)
      |(refine AN mJ (sg,ix) (n:Int) rfl rfl ?_;conv=>whnf)
      |with_reducible assumption
      |fail
    all_goals try first
     |exact True.intro
     |exact True
    all_goals
     repeat' first|refine dt ?_;conv=>whnf|fail
     refine⟨n+1,?_,by omega,by dsimp only;omega⟩
     dsimp only
     unfold KW
     rw[hno 0 (by decide),hno 1 (by decide),hno 3 (by decide),hno 4 (by decide),hno 5 (by decide),hno 6 (by decide),hup 2 rfl]
     exact aH.by_ [(12, .old 12),(210, .old 210),(211, .old 211),(212, .old 212),(213, .old 213),(214, .old 214),(215, .old 215),(216, .old 216)] _ 400 rfl (aa) (aa)
   ·apply c5
    case k=>
     intro o1 o2 o3 o4 o5 o6
     refine oo [0,1,3,4,5,7,9,11,12] (by decide+kernel) ?_
     conv=>whnf
     repeat' first
      |exact True.intro
      |(refine And.intro ?_ ?_<;>conv=>whnf)
      |(refine bg (by clear o1 o2 o3 o4 o5 o6;dsimp only;omega) ?_;conv=>whnf)
      |(refine AN mJ (sg,ix) (n:Int) rfl rfl ?_;conv=>whnf)
      |with_reducible assumption
      |fail
    all_goals try first
     |exact True.intro
     |exact True
    all_goals
     repeat' first|refine dt ?_;conv=>whnf|fail
     refine⟨n+1,?_,by omega,by dsimp only;omega⟩
     dsimp only
     unfold KW
     rw[hno 0 (by decide),hno 1 (by decide),hno 2 (by decide),hno 4 (by decide),hno 5 (by decide),hno 6 (by decide),hup 3 rfl]
     exact aH.by_ [(12, .old 12),(210, .old 210),(211, .old 211),(212, .old 212),(213, .old 213),(214, .old 214),(215, .old 215),(216, .old 216)] _ 400 rfl (aa) (aa)
   ·apply c5
    case k=>
     intro o1 o2 o3 o4 o5 o6
     refine oo [0,1,3,4,5,7,9,11,12] (by decide+kernel) ?_
     conv=>whnf
     repeat' first
      |exact True.intro
      |(refine And.intro ?_ ?_<;>conv=>whnf)
      |(refine bg (by clear o1 o2 o3 o4 o5 o6;dsimp only;omega) ?_;conv=>whnf)
      |(refine AN mJ (sg,ix) (n:Int) rfl rfl ?_;conv=>whnf)
      |with_reducible assumption
      |fail
    all_goals try first
     |exact True.intro
     |exact True
    all_goals
     repeat' first|refine dt ?_;conv=>whnf|fail
     refine⟨n+1,?_,by omega,by dsimp only;omega⟩
     dsimp only
     unfold KW
     rw[hno 0 (by decide),hno 1 (by decide),hno 2 (by decide),hno 3 (by decide),hno 5 (by decide),hno 6 (by decide),hup 4 rfl]
     exact aH.by_ [(12, .old 12),(210, .old 210),(211, .old 211),(212, .old 212),(213, .old 213),(214, .old 214),(215, .old 215),(216, .old 216)] _ 400 rfl (aa) (aa)
   ·apply c5
    case k=>
     intro o1 o2 o3 o4 o5 o6
     refine oo [0,1,3,4,5,7,9,11,12] (by decide+kernel) ?_
     conv=>whnf
     repeat' first
      |exact True.intro
      |(refine And.intro ?_ ?_<;>conv=>whnf)
      |(refine bg (by clear o1 o2 o3 o4 o5 o6;dsimp only;omega) ?_;conv=>whnf)
      |(refine AN mJ (sg,ix) (n:Int) rfl rfl ?_;conv=>whnf)
      |with_reducible assumption
      |fail
    all_goals try first
     |exact True.intro
     |exact True
    all_goals
     repeat' first|refine dt ?_;conv=>whnf|fail
     refine⟨n+1,?_,by omega,by dsimp only;omega⟩
     dsimp only
     unfold KW
     rw[hno 0 (by decide),hno 1 (by decide),hno 2 (by decide),hno 3 (by decide),hno 4 (by decide),hno 6 (by decide),hup 5 rfl]
     exact aH.by_ [(12, .old 12),(210, .old 210),(211, .old 211),(212, .old 212),(213, .old 213),(214, .old 214),(215, .old 215),(216, .old 216)] _ 400 rfl (aa) (aa)
   ·apply c5
    case k=>
     intro o1 o2 o3 o4 o5 o6
     refine oo [0,1,3,4,5,7,9,11,12] (by decide+kernel) ?_
     conv=>whnf
     repeat' first
      |exact True.intro
      |(refine And.intro ?_ ?_<;>conv=>whnf)
      |(refine bg (by clear o1 o2 o3 o4 o5 o6;dsimp only;omega) ?_;conv=>whnf)
      |(refine AN mJ (sg,ix) (n:Int) rfl rfl ?_;conv=>whnf)
      |with_reducible assumption
      |fail
    all_goals try first
     |exact True.intro
     |exact True
    all_goals
     repeat' first|refine dt ?_;conv=>whnf|fail
     refine⟨n+1,?_,by omega,by dsimp only;omega⟩
     dsimp only
     unfold KW
     rw[hno 0 (by decide),hno 1 (by decide),hno 2 (by decide),hno 3 (by decide),hno 4 (by decide),hno 5 (by decide),hup 6 rfl]
     exact aH.by_ [(12, .old 12),(210, .old 210),(211, .old 211),(212, .old 212),(213, .old 213),(214, .old 214),(215, .old 215),(216, .old 216)] _ 400 rfl (aa) (aa)
  ·obtain rfl:n=vars.length:=by omega
   exact⟨rfl,(aa)⟩
theorem EJ {p:av} {q:aP} {sch:List Int} {v:Vb} (h:v∈az p q sch):0<=v.kind/\v.kind<7:=by
 unfold az at h
 rcases List.mem_append.1 h with h|h
 ·rcases List.mem_append.1 h with h|h
  ·simp only[List.mem_cons,List.not_mem_nil,or_false] at h
   rcases h with rfl|rfl|rfl<;>exact⟨by decide,by decide⟩
  ·unfold CI at h
   rcases List.mem_append.1 h with h|h
   ·obtain⟨x,_,rfl⟩:=List.mem_map.1 h
    exact⟨by dsimp only;omega,by dsimp only;omega⟩
   ·split at h
    ·obtain⟨x,_,rfl⟩:=List.mem_map.1 h
     exact⟨by dsimp only;omega,by dsimp only;omega⟩
    ·cases h
 ·obtain⟨j,_,h⟩:=List.mem_flatMap.1 h
  obtain⟨r,_,h⟩:=iC h
  have:=(i8 h).1
  omega
theorem pC {p:av} (hv:aX p=0) (i:Nat) (hi:i<p.rules.length):(p.rules.getD i ax).send.length<=60:=by
 have h:=rV hv
 have h1:¬tv (p.rules.getD i ax):=fun hb=>h (by unfold tw;exact .inr (.inr (.inr (.inr (.inr (.inr (.inr (.inr (.inl ⟨i,hi,hb⟩)))))))))
 unfold tv at h1
 omega
def e8:List lp:=[⟨-1,1,0,0⟩,⟨0,1,-1,0⟩,⟨0,1,0,-1⟩]
def mM (vars:List Vb) (ls:List lp):List aV:=ls.map fun l=>aQ vars (qz l)
theorem mN (vars:List Vb) (ls:List lp) (l:lp):mM vars (ls++[l])=mM vars ls++[aQ vars (qz l)]:=by unfold mM;rw[List.map_append];rfl
theorem qD (ls:List lp) (x:Nat) (hx:x<ls.length):ls.take (x+1)=ls.take x++[ls.getD (x:Int).toNat eX]:=by
 rw[tN,List.take_succ_eq_append_getElem hx,ap eX hx]
def BE (p:av) (sch:List Int) (vars:List Vb) (n:Nat):List aV:=((List.range n).flatMap (oi p sch)).map (aQ vars)
theorem zx (p:av) (sch:List Int) (vars:List Vb) (n:Nat):BE p sch vars (n+1)=BE p sch vars n++(oi p sch n).map (aQ vars):=by
 unfold BE
 rw[List.range_succ,List.flatMap_append,List.map_append]
 simp
theorem BF (p:av) (q:aP) (hq:bD p q=0) (sch:List Int) (hs:dS (ay p.rules).length sch) (number:Int) (hb:number<=1000000):ah Tryz.prog 38 [.pd (fE p q), .sl 0 al sch, .int .i64 number]
  (fun u=>u= .agg [.int .i64 (az p q sch).length, .sl ar aw (gy p q sch number)]):=by
 have vq:=aW hq
 have hV:=vq.vld
 have w:=aN hV
 have wl:=w.len
 have hT:=w.thr
 have hsl:=cu hs
 have hvl:=iE hq hs
 have hnd:=og hq sch
 have hbeg:=P5 p q sch hq hs fun n hn=>EJ (bu (l:=az p q sch) d8 hn)
 have hpar:=fun rows (hr:rows.length<=1000000) l (hl:eY l)=>PU p q sch (az p q sch) rows hnd (by omega) hr l hl
 have hsta:=fun rows (hr:rows.length<=1000000) kind hk l hl=>PX p q sch (az p q sch) rows hnd (by omega) hr (by omega) kind hk l hl
 have hseg:=fun rows (hr:rows.length<=100000) j hj=>P0 p q sch (az p q sch) rows hnd (by omega) hr (by omega) (by omega) (fun i hi=>by have:=pC hV i hi;omega) (by omega) (fun g hg=>(xd hV hg).2) hs j hj
 have hvio:=fun rows (hr:rows.length<=100000) (m:Nat) (hm:m<=1000000)=>P2 p q sch (az p q sch) rows hnd (by omega) hr (by omega) (by omega) (fun i hi=>by have:=pC hV i hi;omega) (by omega) hV
  (fun k=>⟨by have:=(vq.bad k).1;omega,fun i hi=>by
   have c:=ni vq k hi
   have:=bN c.1
   omega⟩)
  (by
   rcases vq.kind with k|k
   ·have:=vq.shp;omega
   ·have:=bN (vq.goal k).1;omega)
  (fun i hi=>⟨fun g hg=>(ly (w.rul i hi) hg).2,by have:=ew hV i hi;omega⟩) m hm
 have hbl:∀l∈i9 p,eY l:=GJ hV
 have hblit:∀x:Nat,x<3->eY (e8.getD (x:Int).toNat eX):=fun x hx=>hbl _ (by
  unfold i9
  rw[tN]
  exact List.mem_append_left _ (List.mem_append_left _ (bu (l:=e8) eX hx)))
 have hbres:∀x:Nat,x<p.resilience.length->eY (p.resilience.getD (x:Int).toNat eX):=fun x hx=>hbl _ (by
  unfold i9
  rw[tN]
  exact List.mem_append_right _ (bu (l:=p.resilience) eX hx))
 have fB:∀a b c d:Int,-100<=a/\a<=100->-100<=b/\b<=100->-100<=c/\c<=100->-100<=d/\d<=100->eY ⟨a,b,c,d⟩:=fun a b c d h1 h2 h3 h4=>⟨h1,h2,h3,h4⟩
 have hsys:gy p q sch number=(mM (az p q sch) (i9 p)++(oh p).map (aQ (az p q sch))++BE p sch (az p q sch) (sch.length+1))++(if 0<=number then(oj p q sch.length number.toNat).map (aQ (az p q sch)) else[]):=by
  unfold gy tQ mM BE
  rw[List.map_append,List.map_append,List.map_append,List.map_map]
  congr 1
  split<;>rfl
 have hsel:∀n,n<=sch.length+1->(BE p sch (az p q sch) n).length<=20*n:=by
  intro n
  induction n with
  |zero=>intro _;simp[BE]
  |succ n ih=>
   intro hn
   rw[zx,List.length_append,List.length_map]
   have a:=ih (by omega)
   have:(oi p sch n).length<=20:=by
    unfold oi
    rw[List.length_append,List.length_append]
    split<;>split<;>simp<;>omega
   omega
 have hpal:(mM (az p q sch) (i9 p)).length<=9:=by unfold mM i9;rw[List.length_map,List.length_append,List.length_append];split<;>simp<;>omega
 have hstl:((oh p).map (aQ (az p q sch))).length<=4:=by unfold oh;rw[List.length_map,List.length_append];split<;>simp
 have hpe:i9 p=e8++(if p.fault=0 then[⟨0,0,-1,0⟩,⟨0,0,0,-1⟩] else[])++p.resilience:=rfl
 rw[hsys]
 clear hsys hbl
 generalize hvv:az p q sch=vars at*
 refine ah.intro ab ac Tryz.func38 rfl (by decide) ?_;(conv=>whnf)
 refine aj.news 400 gS (fT p q sch vars []) (.ptr 200 0) hbeg (aa) rfl (by rintro u M' ⟨rfl,rfl⟩;exact⟨(aa),(aa)⟩) ?_
 conv=>whnf
 refine bp eX cq e8 rfl ?_
 conv=>whnf
 refine aJ.loopF ab ac (fun x:Nat=>x<=3) (fun x=>[(21, .int .i64 (x:Int))]) (fun x=>[(6, .box 46 [.int .i64 0, .nilsl]),(19, .row 182 eX cq e8)]++fT p q sch vars (mM vars (e8.take x))) (fun x=>3-x) 0 (Nat.zero_le _) ?_;conv=>whnf
 refine⟨aH.by_ ((6, .old 6)::(19, .old 19)::gS) _ 400 rfl (aa) (aa),?_⟩
 rintro x hx
 conv=>whnf
 refine ae ?_ ?_<;>(intro h1;conv=>whnf)
 ·have hx3:x<3:=by have:(e8.length:Int)=3:=rfl;omega
  have hc:=hpar (mM vars (e8.take x)) (by unfold mM;rw[List.length_map,List.length_take];omega) _ (hblit x hx3)
  rw[<-mN,<-qD e8 x hx3] at hc
  repeat' first|refine dt ?_;conv=>whnf|fail
  refine aj.call gS (fT p q sch vars (mM vars (e8.take x))) 400 rfl (aa) (aa) hc ?_
  rintro u M' ⟨rfl,rfl⟩
  refine⟨xr,px p q sch vars (mM vars (e8.take (x+1))), .tup [],rfl,(aa),trivial,?_⟩
  conv=>whnf
  repeat' first|refine dt ?_;conv=>whnf|fail
  refine⟨x+1,?_,by omega,by dsimp only;omega⟩
  exact aH.by_ [(6, .old 6),(19, .old 19),(200, .old 200),(201, .old 202),(210, .old 210),(211, .old 211),(212, .old 212),(213, .old 213),(214, .old 214),(215, .old 215),(216, .old 216)] _ 400 rfl (aa) (aa)
 ·obtain rfl:x=3:=by have:(e8.length:Int)=3:=rfl;omega
  rw[show e8.take 3=e8 from rfl]
  obtain⟨LL,hLL⟩:∃LL:List lp,LL=e8++(if p.fault=0 then[⟨0,0,-1,0⟩,⟨0,0,0,-1⟩] else[]):=⟨_,rfl⟩
  have hL1:p.fault=0->LL=e8++([⟨0,0,-1,0⟩]++[⟨0,0,0,-1⟩]):=fun h=>by rw[hLL,if_pos h];rfl
  have hL2:¬p.fault=0->LL=e8:=fun h=>by rw[hLL,if_neg h,List.append_nil]
  have hLl:LL.length<=5:=by rw[hLL];unfold e8;split<;>simp
  rw[<-hLL] at hpe
  clear hLL
  apply once (A:=aJ Tryz.prog _ (.loop _) ([.pd (fE p q), .sl 0 al sch, .int .i64 number, .top, .top, .top, .ptr 6 0, .ptr 200 0]++List.replicate 37 .top++[.sl eX cq p.resilience, .int .i64 (p.resilience.length:Int), .int .i64 0]++List.replicate 39 .top) (ag.ofL ((6, .box 46 [.int .i64 0, .nilsl])::fT p q sch vars (mM vars LL))) _)
  case k=>
   intro hs0
   refine ae (fun hf=>?_) (fun hf=>?_)
   rotate_left
   ·conv=>whnf
    exact aJ.sub (by rw[hL2 hf];exact aH.by_ [(6, .old 6),(200, .old 200),(201, .old 201),(210, .old 210),(211, .old 211),(212, .old 212),(213, .old 213),(214, .old 214),(215, .old 215),(216, .old 216)] _ 400 rfl (aa) (aa)) hs0
   ·have c1:=hpar (mM vars e8) (by unfold mM e8;simp) ⟨0,0,-1,0⟩ (fB _ _ _ _ (by omega) (by omega) (by omega) (by omega))
    rw[<-mN] at c1
    have c2:=hpar (mM vars (e8++[⟨0,0,-1,0⟩])) (by unfold mM e8;simp) ⟨0,0,0,-1⟩ (fB _ _ _ _ (by omega) (by omega) (by omega) (by omega))
    rw[<-mN,List.append_assoc] at c2
    simp only[mf,nC,cA,List.set]
    refine iG ?_
    refine rn rfl ?_
    refine f7 ?_
    refine e7 ?_
    refine bv (.ptr 200 0) rfl (fun K' h=>?_) rfl ?_
    ·conv=>whnf
     exact h
    refine bv (.agg (cq ⟨0,0,-1,0⟩)) rfl (fun K' h=>?_) rfl ?_
    ·conv=>whnf
     exact h
    refine ie rfl rfl ?_
    refine aj.call gS (fT p q sch vars (mM vars e8)) 400 rfl (aa) (aa) c1 ?_
    rintro u M' ⟨rfl,rfl⟩
    refine⟨xr,px p q sch vars (mM vars (e8++[⟨0,0,-1,0⟩])), .tup [],rfl,(aa),trivial,?_⟩
    simp only[mf,nC,cA,List.set]
    refine iG ?_
    refine e7 ?_
    refine bv (.ptr 200 0) rfl (fun K' h=>?_) rfl ?_
    ·conv=>whnf
     exact h
    refine bv (.agg (cq ⟨0,0,0,-1⟩)) rfl (fun K' h=>?_) rfl ?_
    ·conv=>whnf
     exact h
    refine ie rfl rfl ?_
    refine aj.call G6 (fT p q sch vars (mM vars (e8++[⟨0,0,-1,0⟩]))) 400 rfl (aa) (aa) c2 ?_
    rintro u M' ⟨rfl,rfl⟩
    refine⟨J5,Pq p q sch vars (mM vars (e8++([⟨0,0,-1,0⟩]++[⟨0,0,0,-1⟩]))), .tup [],rfl,(aa),trivial,?_⟩
    simp only[mf,nC,cA,List.set]
    refine iG ?_
    conv=>whnf
    exact aJ.sub (by rw[hL1 hf];exact aH.by_ [(6, .old 6),(200, .old 200),(201, .old 203),(210, .old 210),(211, .old 211),(212, .old 212),(213, .old 213),(214, .old 214),(215, .old 215),(216, .old 216)] _ 400 rfl (aa) (aa)) hs0
  case h=>
   refine aJ.loopF ab ac (fun x:Nat=>x<=p.resilience.length) (fun x=>[(47, .int .i64 (x:Int))]) (fun x=>(6, .box 46 [.int .i64 0, .nilsl])::fT p q sch vars (mM vars (LL++p.resilience.take x))) (fun x=>p.resilience.length-x) 0 (Nat.zero_le _) ?_;conv=>whnf
   refine⟨by rw[List.take_zero,List.append_nil];exact aH.by_ ((6, .old 6)::gS) _ 400 rfl (aa) (aa),?_⟩
   rintro x hx
   conv=>whnf
   refine ae ?_ ?_<;>(intro h1;conv=>whnf)
   ·have hxl:x<p.resilience.length:=by omega
    have hc:=hpar (mM vars (LL++p.resilience.take x)) (by unfold mM;simp only[List.length_map,List.length_append,List.length_take];omega) _ (hbres x hxl)
    rw[<-mN,List.append_assoc,<-qD p.resilience x hxl] at hc
    repeat' first|refine dt ?_;conv=>whnf|fail
    refine aj.call gS (fT p q sch vars (mM vars (LL++p.resilience.take x))) 400 rfl (aa) (aa) hc ?_
    rintro u M' ⟨rfl,rfl⟩
    refine⟨xr,px p q sch vars (mM vars (LL++p.resilience.take (x+1))), .tup [],rfl,(aa),trivial,?_⟩
    conv=>whnf
    repeat' first|refine dt ?_;conv=>whnf|fail
    refine⟨x+1,?_,by omega,by dsimp only;omega⟩
    exact aH.by_ [(6, .old 6),(200, .old 200),(201, .old 202),(210, .old 210),(211, .old 211),(212, .old 212),(213, .old 213),(214, .old 214),(215, .old 215),(216, .old 216)] _ 400 rfl (aa) (aa)
   ·obtain rfl:x=p.resilience.length:=by omega
    rw[List.take_length,<-hpe]
    generalize hPP:mM vars (i9 p)=PA at*
    have c3:=hsta PA (by omega) 3 (by omega) ⟨0,1,0,-1⟩ (fB _ _ _ _ (by omega) (by omega) (by omega) (by omega))
    have hS1:jZ p->(oh p).map (aQ vars)=[aQ vars (jK 3 p.states.length 1 ⟨0,1,0,-1⟩),aQ vars (jK 3 p.states.length (-1) ⟨0,1,0,-1⟩)]++[aQ vars (jK 4 p.states.length 1 ⟨0,0,0,1⟩),aQ vars (jK 4 p.states.length (-1) ⟨0,0,0,1⟩)]:=fun h=>by unfold oh;rw[if_pos h];rfl
    have hS2:¬jZ p->(oh p).map (aQ vars)=[aQ vars (jK 3 p.states.length 1 ⟨0,1,0,-1⟩),aQ vars (jK 3 p.states.length (-1) ⟨0,1,0,-1⟩)]:=fun h=>by unfold oh;rw[if_neg h];rfl
    have c4:=hsta (PA++[aQ vars (jK 3 p.states.length 1 ⟨0,1,0,-1⟩),aQ vars (jK 3 p.states.length (-1) ⟨0,1,0,-1⟩)]) (by simp only[List.length_append,List.length_cons,List.length_nil];omega) 4 (by omega) ⟨0,0,0,1⟩ (fB _ _ _ _ (by omega) (by omega) (by omega) (by omega))
    rw[List.append_assoc] at c4
    generalize (oh p).map (aQ vars)=SA at*
    refine aj.call gS (fT p q sch vars PA) 400 rfl (aa) (aa) c3 ?_
    rintro u M' ⟨rfl,rfl⟩
    refine⟨xr,px p q sch vars (PA++[aQ vars (jK 3 p.states.length 1 ⟨0,1,0,-1⟩),aQ vars (jK 3 p.states.length (-1) ⟨0,1,0,-1⟩)]), .tup [],rfl,(aa),trivial,?_⟩
    conv=>whnf
    apply once (A:=aJ Tryz.prog _ (.loop _) ([.pd (fE p q), .sl 0 al sch, .int .i64 number, .top, .top, .top, .ptr 6 0, .ptr 200 0]++List.replicate 57 .top++[.int .i64 ((sch.length:Int)+1), .int .i64 0]++List.replicate 20 .top) (ag.ofL ((6, .box 46 [.int .i64 0, .nilsl])::fT p q sch vars (PA++SA))) _)
    case k=>
     intro hs1
     refine dC (jA p q) (fun _=>?_) (fun _=>?_)<;>(conv=>whnf)
     ·rename_i hw
      rw[<-hS1 hw] at c4
      refine aj.call G6 (fT p q sch vars (PA++[aQ vars (jK 3 p.states.length 1 ⟨0,1,0,-1⟩),aQ vars (jK 3 p.states.length (-1) ⟨0,1,0,-1⟩)])) 400 rfl (aa) (aa) c4 ?_
      rintro u M' ⟨rfl,rfl⟩
      refine⟨J5,Pq p q sch vars (PA++SA), .tup [],rfl,(aa),trivial,?_⟩
      conv=>whnf
      repeat' first|refine dt ?_;conv=>whnf|fail
      exact aJ.sub (aH.by_ [(6, .old 6),(200, .old 200),(201, .old 203),(210, .old 210),(211, .old 211),(212, .old 212),(213, .old 213),(214, .old 214),(215, .old 215),(216, .old 216)] _ 400 rfl (aa) (aa)) hs1
     ·rename_i hw
      repeat' first|refine dt ?_;conv=>whnf|fail
      exact aJ.sub (by rw[hS2 hw];exact aH.by_ [(6, .old 6),(200, .old 200),(201, .old 202),(210, .old 210),(211, .old 211),(212, .old 212),(213, .old 213),(214, .old 214),(215, .old 215),(216, .old 216)] _ 400 rfl (aa) (aa)) hs1
    case h=>
     refine aJ.loopF ab ac (fun x:Nat=>x<=sch.length+1) (fun x=>[(66, .int .i64 (x:Int))]) (fun x=>(6, .box 46 [.int .i64 0, .nilsl])::fT p q sch vars (PA++SA++BE p sch vars x)) (fun x=>sch.length+1-x) 0 (Nat.zero_le _) ?_;conv=>whnf
     refine⟨by rw[show BE p sch vars 0=[] from rfl,List.append_nil];exact aH.by_ ((6, .old 6)::gS) _ 400 rfl (aa) (aa),?_⟩
     rintro x hx
     conv=>whnf
     refine ae ?_ ?_<;>(intro h1;conv=>whnf)
     ·have hxl:x<=sch.length:=by omega
      have hc:=hseg (PA++SA++BE p sch vars x) (by have:=hsel x (by omega);simp only[List.length_append];omega) x hxl
      rw[List.append_assoc (PA++SA),<-zx] at hc
      repeat' first|refine dt ?_;conv=>whnf|fail
      refine aj.call gS (fT p q sch vars (PA++SA++BE p sch vars x)) 400 rfl (aa) (aa) hc ?_
      rintro u M' ⟨rfl,rfl⟩
      refine⟨xr,px p q sch vars (PA++SA++BE p sch vars (x+1)), .tup [],rfl,(aa),trivial,?_⟩
      conv=>whnf
      repeat' first|refine dt ?_;conv=>whnf|fail
      refine⟨x+1,?_,by omega,by dsimp only;omega⟩
      exact aH.by_ [(6, .old 6),(200, .old 200),(201, .old 202),(210, .old 210),(211, .old 211),(212, .old 212),(213, .old 213),(214, .old 214),(215, .old 215),(216, .old 216)] _ 400 rfl (aa) (aa)
     ·obtain rfl:x=sch.length+1:=by omega
      have hse:=hsel (sch.length+1) (by omega)
      refine ae ?_ ?_<;>(intro hz;conv=>whnf)
      ·rw[if_pos hz]
       have hc:=hvio (PA++SA++BE p sch vars (sch.length+1)) (by simp only[List.length_append];omega) number.toNat (by omega)
       rw[Int.toNat_of_nonneg hz] at hc
       refine aj.call gS (fT p q sch vars (PA++SA++BE p sch vars (sch.length+1))) 400 rfl (aa) (aa) hc ?_
       rintro u M' ⟨rfl,rfl⟩
       refine⟨xr,px p q sch vars (PA++SA++BE p sch vars (sch.length+1)++(oj p q sch.length number.toNat).map (aQ vars)), .tup [],rfl,(aa),trivial,?_⟩
       conv=>whnf
       refine mL [0,1,2,4,5,6,8] (by decide+kernel) ?_
       conv=>whnf
       repeat' first
        |exact True.intro
        |(refine And.intro ?_ ?_<;>conv=>whnf)
        |exact rfl
        |fail
      ·rw[if_neg hz,List.append_nil]
       refine mL [0,1,2,4,5,6,8] (by decide+kernel) ?_
       conv=>whnf
       repeat' first
        |exact True.intro
        |(refine And.intro ?_ ?_<;>conv=>whnf)
        |exact rfl
        |fail
noncomputable def xt (p:av) (q:aP) (sch:List Int) (number:Int):AV:=
 if dq p q≠0 then .tup [.agg [.int .i64 0, .nilsl], .int .i64 (dq p q)]
 else if¬dS (ay p.rules).length sch\/number< -1\/(db p q:Int)<=number then .tup [.agg [.int .i64 0, .nilsl], .int .i64 1]
 else .tup [.agg [.int .i64 (az p q sch).length, .sl ar aw (gy p q sch number)], .int .i64 0]
theorem My (p:av) (q:aP) (hp:lO p) (hq:rS q) (sch:List Int) (hl:sch.length<=140737488355328) (number:Int):ah Tryz.prog 26 [.agg (cV p), .agg (eO q), .sl 0 al sch, .int .i64 number] (fun u=>u=xt p q sch number):=by
 have he:=xt.eq_1 p q sch number
 refine ah.intro ab ac Tryz.func26 rfl (by decide) ?_;(conv=>whnf)
 refine au rfl ?_
 conv=>whnf
 refine au rfl ?_
 conv=>whnf
 refine aj.of_pure (n:=5) (tS p q hp hq) (by rfl) ?_
 rintro _ rfl
 by_cases h:dq p q=0
 ·rw[if_neg (by omega)] at he
  rw[ja h]
  have hcs:=om h
  conv=>whnf
  refine fI ?_
  conv=>whnf
  refine dC (vT p q sch hl) (fun _=>?_) (fun _=>?_)<;>(conv=>whnf)
  ·rename_i hs
   refine ae ?_ ?_<;>(intro h1;conv=>whnf)
   ·rw[if_pos (.inr (.inl h1))] at he
    exact⟨he.symm,rfl⟩
   refine ae ?_ ?_<;>(intro h2;conv=>whnf)
   ·rw[if_pos (.inr (.inr (by omega)))] at he
    exact⟨he.symm,rfl⟩
   rw[if_neg (fun hh=>by rcases hh with hh|hh|hh;exact hh hs;omega;omega)] at he
   (refine oP (BF p q (du h) sch hs number (by omega)) ?_;conv=>whnf)
   exact⟨he.symm,rfl⟩
  ·rename_i hs
   rw[if_pos (.inl hs)] at he
   exact⟨he.symm,rfl⟩
 ·rw[if_pos h] at he
  rw[gz rfl h]
  conv=>whnf
  refine cO h ?_
  conv=>whnf
  exact⟨he.symm,rfl⟩
end Go.Proofs.YtekmminpfhacpaaGreatDoor
