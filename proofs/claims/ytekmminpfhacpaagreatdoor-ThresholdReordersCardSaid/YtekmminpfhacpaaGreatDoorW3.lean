import Derived.Test.YtekmminpfhacpaaGreatDoorW2
import Derived.Test.YtekmminpfhacpaaGreatDoorV1
set_option linter.unusedVariables false
set_option linter.unusedSimpArgs false
namespace Go.Proofs.YtekmminpfhacpaaGreatDoor
set_option maxRecDepth 100000
set_option maxHeartbeats 16000000
def IA:dE:=[(200, .old 200),(202, .old 201),(203, .old 202),(210, .old 210),(211, .old 211),(212, .old 212),(213, .old 213),(214, .old 214),(215, .old 215),(216, .old 216)]
def OC:dE:=[(200, .old 200),(201, .old 201),(202, .old 203),(210, .old 210),(211, .old 211),(212, .old 212),(213, .old 213),(214, .old 214),(215, .old 215),(216, .old 216)]
noncomputable abbrev ND (p:an) (q:aG) (sch:List Int) (vars:List Vb) (rows:List fo):List (Nat×cp):=
 [(200, .box 156 (JP p q sch vars.length 203 rows.length)),(202, .dead),(203, .row 161 cP dM rows),(210,fY vars 0),(211,fY vars 1),(212,fY vars 2),(213,fY vars 3),(214,fY vars 4),(215,fY vars 5),(216,fY vars 6)]
def oL (goal:List Int) (x:Nat):List Int:=((List.range x).map fun x:Nat=>(x:Int)).filter fun x=>decide (x∉goal)
theorem IB (goal:List Int):oL goal 0=[]:=rfl
theorem IC (goal:List Int) (x:Nat):oL goal (x+1)=oL goal x++if(x:Int)∈goal then[] else[(x:Int)]:=by
 unfold oL
 rw[List.range_succ,List.map_append,List.filter_append]
 congr 1
 by_cases h:(x:Int)∈goal<;>simp[h]
theorem Li (goal:List Int) (x:Nat):(oL goal x).length<=x:=by
 unfold oL
 have:=List.length_filter_le (fun x=>decide (x∉goal)) ((List.range x).map fun x:Nat=>(x:Int))
 simpa using this
theorem N8 (p:an) (q:aG) (sch:List Int) (vars:List Vb) (rows:List fo) (hn:vars.Nodup) (hv:vars.length<=1000000) (hr:rows.length<=100000) (hst:p.states.length<=1000) (hrl:p.rules.length<=1000) (hsd:∀i,i<p.rules.length->(p.rules.getD i ap).send.length<=1000000) (hsl:sch.length<=9)
  (hV:aA p=0) (hbad:q.kind=1->q.bad.length<=1000/\∀i,i<q.bad.length->(q.bad.getD i br).states.length<=10000/\0<=(q.bad.getD i br).least/\(q.bad.getD i br).least<=1000) (hgo:q.goal.length<=1000000)
  (hg:∀i,i<p.rules.length->(∀g∈(p.rules.getD i ap).guards,(1<=g.coef/\g.coef<=100)/\eh g.bound)/\(p.rules.getD i ap).guards.length<=1000) (number:Nat) (hnu:number<=1000000):
  am Tryz.prog 110 [.ptr 200 0, .int .i64 (number:Int)] (aj.ofL (cG p q sch vars rows))
   (fun u M=>u= .tup []/\M=aj.ofL (nH p q sch vars (rows++(gS p q sch.length number).map (c6 vars)))):=by
 refine am.renorm 400 (R:=fun u M=>u= .tup []/\dV uX 400 M (nH p q sch vars (rows++(gS p q sch.length number).map (c6 vars)))) ?_ ?_
 case refine_2=>
  rintro u M ⟨rfl,hM⟩
  exact⟨uX,_, .tup [],rfl,hM,trivial,rfl,rfl⟩
 have hch:=Ir p q hV number hnu
 by_cases hk:q.kind=1
 ·obtain⟨hbl,hbad⟩:=hbad hk
  obtain⟨R,hR⟩:∃R:Nat->List fo,R=fun x=>rows++(q.bad.take x).map fun c=>c6 vars (lu p sch.length c.states c.least):=⟨_,rfl⟩
  have hR0:R 0=rows:=by rw[hR];simp
  have hRn:∀x,x<q.bad.length->R (x+1)=R x++[c6 vars (lu p sch.length (q.bad.getD (x:Int).toNat br).states (q.bad.getD (x:Int).toNat br).least)]:=fun x hx=>by
   rw[hR,tN]
   dsimp only
   rw[List.take_succ_eq_append_getElem hx,List.map_append,<-List.append_assoc,av br hx]
   rfl
  have hRl:∀x,x<=q.bad.length->(R x).length<=102000:=fun x hx=>by
   rw[hR];simp only[List.length_append,List.length_map,List.length_take];omega
  have hend:rows++(gS p q sch.length number).map (c6 vars)=R q.bad.length:=by
   rw[hR];dsimp only;rw[List.take_length];unfold gS;rw[if_pos hk,List.map_map];rfl
  rw[hend]
  have ha:=fun x (hx:x<q.bad.length)=>MV p q sch vars (R x) hn hv (by have:=hRl x (by omega);omega) hrl (by omega) (q.bad.getD (x:Int).toNat br).states (by rw[tN];exact(hbad x hx).1) (q.bad.getD (x:Int).toNat br).least (by rw[tN];exact(hbad x hx).2)
  have ha:∀x,x<q.bad.length->am Tryz.prog 198 [.ptr 200 0, .sl 0 ao (q.bad.getD (x:Int).toNat br).states, .int .i64 (q.bad.getD (x:Int).toNat br).least] (aj.ofL (cG p q sch vars (R x)))
    (fun u M=>u= .tup []/\M=aj.ofL (nH p q sch vars (R (x+1)))):=fun x hx=>by rw[hRn x hx];exact ha x hx
  clear hR hRn hend
  refine am.intro ae ag (cG p q sch vars rows) Tryz.func110 rfl (by decide) ?_
  conv=>whnf
  refine cC hk ?_
  conv=>whnf
  refine aQ.loopF ae ag (fun x:Nat=>x<=q.bad.length) (fun x=>[(28, .int .i64 (x:Int))]) (fun x=>nH p q sch vars (R x)) (fun x=>q.bad.length-x) 0 (Nat.zero_le _) ?_;conv=>whnf
  refine⟨by rw[hR0];exact bn.by_ N1 _ 400 rfl (aa) (aa),?_⟩
  rintro x hx
  conv=>whnf
  refine ah ?_ ?_<;>(intro h1;conv=>whnf)
  ·have ha1:=ha x (by omega)
   repeat' ((first|refine nI ?_|refine aI ?_|refine tI ?_|refine fI ?_|fail);conv=>whnf)
   refine am.call FJ (cG p q sch vars (R x)) 400 rfl (aa) (aa) ha1 ?_
   rintro u M' ⟨rfl,rfl⟩
   refine⟨IA,ND p q sch vars (R (x+1)), .tup [],rfl,(aa),trivial,?_⟩
   conv=>whnf
   repeat' ((first|refine nI ?_|refine aI ?_|refine tI ?_|refine fI ?_|fail);conv=>whnf)
   refine⟨x+1,?_,by omega,by dsimp only;omega⟩
   exact bn.by_ OC _ 400 rfl (aa) (aa)
  ·obtain rfl:x=q.bad.length:=by omega
   exact⟨rfl,(aa)⟩
 ·rw[if_neg hk] at hch
  obtain⟨R,hR⟩:∃R:Nat->List fo,R=fun x=>rows++(lu p sch.length (uJ p q) 1::(List.range x).map fun i=>o7 p sch.length (p.rules.getD i ap) ((x5 p number).getD i 0)).map (c6 vars):=⟨_,rfl⟩
  have hR0:R 0=rows++[c6 vars (lu p sch.length (oL q.goal p.states.length) 1)]:=by rw[hR];rfl
  have hRn:∀x,R (x+1)=R x++[c6 vars (o7 p sch.length (p.rules.getD x ap) ((x5 p number).getD (x:Int).toNat 0))]:=fun x=>by
   rw[hR,tN]
   dsimp only
   rw[List.range_succ]
   simp only[List.map_append,List.map_cons,List.map_nil,List.append_assoc,List.cons_append]
  have hRl:∀x,x<=p.rules.length->(R x).length<=102000:=fun x hx=>by
   rw[hR];simp only[List.length_append,List.length_map,List.length_cons,List.length_range];omega
  have hend:rows++(gS p q sch.length number).map (c6 vars)=R p.rules.length:=by
   rw[hR];unfold gS;rw[if_neg hk]
  rw[hend]
  have hi:∀x,x<p.rules.length->am Tryz.prog 200 [.ptr 200 0, .int .i64 (x:Int), .int .i64 ((x5 p number).getD (x:Int).toNat 0)] (aj.ofL (cG p q sch vars (R x)))
    (fun u M=>u= .tup []/\M=aj.ofL (nH p q sch vars (R (x+1)))):=fun x hx=>by
   rw[hRn x]
   have hc:(x5 p number).getD (x:Int).toNat 0=(xZ p.rules number x:Int):=by rw[tN];exact nB hx
   have:=yX p.rules number x
   exact N7 p q sch vars (R x) hn hv (by have:=hRl x (by omega);omega) hrl hsd hsl x hx (hg x hx).1 (hg x hx).2 _ (by rw[hc];omega)
  have hol:=Li q.goal
  have ha:=MV p q sch vars rows hn hv (by omega) hrl (by omega) (oL q.goal p.states.length) (by have:=hol p.states.length;omega) 1 (by omega)
  rw[<-hR0] at ha
  have hO0:=IB q.goal
  have hOn:=IC q.goal
  have hcl:=nA p number
  clear hR hR0 hRn hend
  generalize hO:oL q.goal=O at*
  generalize x5 p number=C at*
  clear hO
  refine am.intro ae ag (cG p q sch vars rows) Tryz.func110 rfl (by decide) ?_
  conv=>whnf
  refine fP hk ?_
  conv=>whnf
  refine aQ.loopF ae ag (fun x:Nat=>x<=p.states.length) (fun x=>[(6, .row 230 (O x).length 1),(48, .int .i64 (x:Int))]) (fun x=>cG p q sch vars rows++[(230, .row 3 0 ao (O x))]) (fun x=>p.states.length-x) 0 (Nat.zero_le _) ?_;conv=>whnf
  refine⟨by rw[hO0];exact bn.by_ (cH++[(230, .nil 1)]) _ 400 rfl (aa) (aa),?_⟩
  rintro x hx
  conv=>whnf
  refine ah ?_ ?_<;>(intro h1;conv=>whnf)
  ·have hO1:=hOn x
   have hl1:=hol x
   repeat' ((first|refine nI ?_|refine aI ?_|refine tI ?_|refine fI ?_|fail);conv=>whnf)
   refine dC (be q.goal (x:Int) (by omega)) (fun _=>?_) (fun _=>?_)<;>(conv=>whnf)
   ·rename_i hm
    rw[if_pos hm,List.append_nil] at hO1
    repeat' ((first|refine nI ?_|refine aI ?_|refine tI ?_|refine fI ?_|fail);conv=>whnf)
    refine⟨x+1,?_,by omega,by dsimp only;omega⟩
    dsimp only
    rw[hO1]
    exact bn.by_ (cH++[(230, .old 230)]) _ 400 rfl (aa) (aa)
   ·rename_i hm
    rw[if_neg hm] at hO1
    repeat' ((first|refine nI ?_|refine aI ?_|refine tI ?_|refine fI ?_|fail);conv=>whnf)
    refine cz [(x:Int)] rfl lI ?_
    conv=>whnf
    repeat' ((first|refine nI ?_|refine aI ?_|refine tI ?_|refine fI ?_|fail);conv=>whnf)
    refine⟨x+1,?_,by omega,by dsimp only;omega⟩
    dsimp only
    rw[hO1]
    exact bn.by_ (cH++[(230, .old 65)]) _ 400 rfl (aa) (aa)
  ·obtain rfl:x=p.states.length:=by omega
   repeat' ((first|refine nI ?_|refine aI ?_|refine tI ?_|refine fI ?_|fail);conv=>whnf)
   refine am.hand 230 rfl ?_
   conv=>whnf
   refine am.call cH (cG p q sch vars rows) 400 rfl (aa) (aa) ha ?_
   rintro u M' ⟨rfl,rfl⟩
   refine⟨uX,nH p q sch vars (R 0), .tup [],rfl,(aa),trivial,?_⟩
   conv=>whnf
   repeat' ((first|refine nI ?_|refine aI ?_|refine tI ?_|refine fI ?_|fail);conv=>whnf)
   (refine oP (hch) ?_;conv=>whnf)
   refine aQ.loopF ae ag (fun x:Nat=>x<=p.rules.length) (fun x=>[(6, .top),(68, .top),(77, .int .i64 (x:Int))]) (fun x=>nH p q sch vars (R x)) (fun x=>p.rules.length-x) 0 (Nat.zero_le _) ?_;conv=>whnf
   refine⟨bn.by_ uX _ 400 rfl (aa) (aa),?_⟩
   rintro x hx
   conv=>whnf
   refine ah ?_ ?_<;>(intro h1;conv=>whnf)
   ·have hi1:=hi x (by omega)
    repeat' ((first|refine nI ?_|refine aI ?_|refine tI ?_|refine fI ?_|fail);conv=>whnf)
    refine am.call FJ (cG p q sch vars (R x)) 400 rfl (aa) (aa) hi1 ?_
    rintro u M' ⟨rfl,rfl⟩
    refine⟨IA,ND p q sch vars (R (x+1)), .tup [],rfl,(aa),trivial,?_⟩
    conv=>whnf
    repeat' ((first|refine nI ?_|refine aI ?_|refine tI ?_|refine fI ?_|fail);conv=>whnf)
    refine⟨x+1,?_,by omega,by dsimp only;omega⟩
    exact bn.by_ OC _ 400 rfl (aa) (aa)
   ·obtain rfl:x=p.rules.length:=by omega
    exact⟨rfl,(aa)⟩
def OP (p:an) (q:aG) (sch:List Int):Nat->List (Nat×cp)
 |0=>[(12, .box 156 [.pd (dQ p q), .sl 0 ao sch, .int .i64 0, .val (.map none), .val (.map none), .val (.map none), .val (.map none), .val (.map none), .val (.map none), .val (.map none), .nilsl])]
 |1=>[(12, .box 156 [.pd (dQ p q), .sl 0 ao sch, .int .i64 0, .mp 210, .val (.map none), .val (.map none), .val (.map none), .val (.map none), .val (.map none), .val (.map none), .nilsl]),(210, .map gz (Value.int .i64) (fun _=>none))]
 |2=>[(12, .box 156 [.pd (dQ p q), .sl 0 ao sch, .int .i64 0, .mp 210, .mp 211, .val (.map none), .val (.map none), .val (.map none), .val (.map none), .val (.map none), .nilsl]),(210, .map gz (Value.int .i64) (fun _=>none)),(211, .map gz (Value.int .i64) (fun _=>none))]
 |3=>[(12, .box 156 [.pd (dQ p q), .sl 0 ao sch, .int .i64 0, .mp 210, .mp 211, .mp 212, .val (.map none), .val (.map none), .val (.map none), .val (.map none), .nilsl]),(210, .map gz (Value.int .i64) (fun _=>none)),(211, .map gz (Value.int .i64) (fun _=>none)),(212, .map gz (Value.int .i64) (fun _=>none))]
 |4=>[(12, .box 156 [.pd (dQ p q), .sl 0 ao sch, .int .i64 0, .mp 210, .mp 211, .mp 212, .mp 213, .val (.map none), .val (.map none), .val (.map none), .nilsl]),(210, .map gz (Value.int .i64) (fun _=>none)),(211, .map gz (Value.int .i64) (fun _=>none)),(212, .map gz (Value.int .i64) (fun _=>none)),(213, .map gz (Value.int .i64) (fun _=>none))]
 |5=>[(12, .box 156 [.pd (dQ p q), .sl 0 ao sch, .int .i64 0, .mp 210, .mp 211, .mp 212, .mp 213, .mp 214, .val (.map none), .val (.map none), .nilsl]),(210, .map gz (Value.int .i64) (fun _=>none)),(211, .map gz (Value.int .i64) (fun _=>none)),(212, .map gz (Value.int .i64) (fun _=>none)),(213, .map gz (Value.int .i64) (fun _=>none)),(214, .map gz (Value.int .i64) (fun _=>none))]
 |6=>[(12, .box 156 [.pd (dQ p q), .sl 0 ao sch, .int .i64 0, .mp 210, .mp 211, .mp 212, .mp 213, .mp 214, .mp 215, .val (.map none), .nilsl]),(210, .map gz (Value.int .i64) (fun _=>none)),(211, .map gz (Value.int .i64) (fun _=>none)),(212, .map gz (Value.int .i64) (fun _=>none)),(213, .map gz (Value.int .i64) (fun _=>none)),(214, .map gz (Value.int .i64) (fun _=>none)),(215, .map gz (Value.int .i64) (fun _=>none))]
 |7=>[(12, .box 156 [.pd (dQ p q), .sl 0 ao sch, .int .i64 0, .mp 210, .mp 211, .mp 212, .mp 213, .mp 214, .mp 215, .mp 216, .nilsl]),(210, .map gz (Value.int .i64) (fun _=>none)),(211, .map gz (Value.int .i64) (fun _=>none)),(212, .map gz (Value.int .i64) (fun _=>none)),(213, .map gz (Value.int .i64) (fun _=>none)),(214, .map gz (Value.int .i64) (fun _=>none)),(215, .map gz (Value.int .i64) (fun _=>none)),(216, .map gz (Value.int .i64) (fun _=>none))]
 |_=>[]
noncomputable abbrev JQ (p:an) (q:aG) (sch:List Int) (vars:List Vb) (n:Nat):List (Nat×cp):=
 [(12, .box 156 [.pd (dQ p q), .sl 0 ao sch, .int .i64 n, .mp 210, .mp 211, .mp 212, .mp 213, .mp 214, .mp 215, .mp 216, .nilsl]),(210, .map gz (Value.int .i64) (kK vars 0 n)),(211, .map gz (Value.int .i64) (kK vars 1 n)),(212, .map gz (Value.int .i64) (kK vars 2 n)),(213, .map gz (Value.int .i64) (kK vars 3 n)),(214, .map gz (Value.int .i64) (kK vars 4 n)),(215, .map gz (Value.int .i64) (kK vars 5 n)),(216, .map gz (Value.int .i64) (kK vars 6 n))]
theorem Lj {vars:List Vb} {n:Nat} {k:Int} (h:(vars.getD n dU).kind≠k):kK vars k (n+1)=kK vars k n:=by
 rw[kK,if_neg h]
theorem Lk {vars:List Vb} {n:Nat} {k:Int} (h:(vars.getD n dU).kind=k):kK vars k (n+1)=qE (kK vars k n) ((vars.getD n dU).seg,(vars.getD n dU).idx) (n:Int):=by
 rw[kK,if_pos h]
theorem Ll (p:an) (q:aG) (sch:List Int) (hq:aP p q=0) (hs:da (ax p.rules).length sch) (hk:∀n,n<(ak p q sch).length->0<=((ak p q sch).getD n dU).kind/\((ak p q sch).getD n dU).kind<7):
  am Tryz.prog 83 [.pd (dQ p q), .sl 0 ao sch] (aj.ofL [])
   (fun u M=>u= .ptr 200 0/\M=aj.ofL (cG p q sch (ak p q sch) [])):=by
 have hvl:=eK hq hs
 have hvf:=rD p q hq sch hs
 have hsl:=c5 hs
 generalize ak p q sch=vars at*
 refine am.renorm 400 (R:=fun u M=>u= .ptr 12 0/\dV [(200, .old 12),(201, .nil 2),(210, .old 210),(211, .old 211),(212, .old 212),(213, .old 213),(214, .old 214),(215, .old 215),(216, .old 216)] 400 M (cG p q sch vars [])) ?_ ?_
 case refine_2=>
  rintro u M ⟨rfl,hM⟩
  exact⟨[(200, .old 12),(201, .nil 2),(210, .old 210),(211, .old 211),(212, .old 212),(213, .old 213),(214, .old 214),(215, .old 215),(216, .old 216)],_, .ptr 200 0,rfl,hM,(aa),rfl,rfl⟩
 refine am.intro ae ag [] Tryz.func83 rfl (by decide) ?_
 conv=>whnf
 refine BF ?_
 conv=>whnf
 refine aQ.loopF ae ag (fun i:Nat=>i<=7) (fun i=>[(13, .int .i64 (i:Int))]) (fun i=>OP p q sch i) (fun i=>7-i) 0 (Nat.zero_le _) ?_;conv=>whnf
 refine⟨bn.by_ [(12, .old 12)] _ 400 rfl (aa) (aa),?_⟩
 rintro i hi
 obtain rfl|rfl|rfl|rfl|rfl|rfl|rfl|rfl:i=0\/i=1\/i=2\/i=3\/i=4\/i=5\/i=6\/i=7:=by omega
 ·conv=>whnf
  refine tI ?_
  conv=>whnf
  refine wj gz (Value.int .i64) ?_
  conv=>whnf
  repeat' ((first|refine nI ?_|refine aI ?_|refine tI ?_|refine fI ?_|fail);conv=>whnf)
  refine⟨1,?_,by omega,by dsimp only;omega⟩
  exact bn.by_ [(12, .old 12),(210, .old 18)] _ 400 rfl (aa) (aa)
 ·conv=>whnf
  refine tI ?_
  conv=>whnf
  refine wj gz (Value.int .i64) ?_
  conv=>whnf
  repeat' ((first|refine nI ?_|refine aI ?_|refine tI ?_|refine fI ?_|fail);conv=>whnf)
  refine⟨2,?_,by omega,by dsimp only;omega⟩
  exact bn.by_ [(12, .old 12),(210, .old 210),(211, .old 18)] _ 400 rfl (aa) (aa)
 ·conv=>whnf
  refine tI ?_
  conv=>whnf
  refine wj gz (Value.int .i64) ?_
  conv=>whnf
  repeat' ((first|refine nI ?_|refine aI ?_|refine tI ?_|refine fI ?_|fail);conv=>whnf)
  refine⟨3,?_,by omega,by dsimp only;omega⟩
  exact bn.by_ [(12, .old 12),(210, .old 210),(211, .old 211),(212, .old 18)] _ 400 rfl (aa) (aa)
 ·conv=>whnf
  refine tI ?_
  conv=>whnf
  refine wj gz (Value.int .i64) ?_
  conv=>whnf
  repeat' ((first|refine nI ?_|refine aI ?_|refine tI ?_|refine fI ?_|fail);conv=>whnf)
  refine⟨4,?_,by omega,by dsimp only;omega⟩
  exact bn.by_ [(12, .old 12),(210, .old 210),(211, .old 211),(212, .old 212),(213, .old 18)] _ 400 rfl (aa) (aa)
 ·conv=>whnf
  refine tI ?_
  conv=>whnf
  refine wj gz (Value.int .i64) ?_
  conv=>whnf
  repeat' ((first|refine nI ?_|refine aI ?_|refine tI ?_|refine fI ?_|fail);conv=>whnf)
  refine⟨5,?_,by omega,by dsimp only;omega⟩
  exact bn.by_ [(12, .old 12),(210, .old 210),(211, .old 211),(212, .old 212),(213, .old 213),(214, .old 18)] _ 400 rfl (aa) (aa)
 ·conv=>whnf
  refine tI ?_
  conv=>whnf
  refine wj gz (Value.int .i64) ?_
  conv=>whnf
  repeat' ((first|refine nI ?_|refine aI ?_|refine tI ?_|refine fI ?_|fail);conv=>whnf)
  refine⟨6,?_,by omega,by dsimp only;omega⟩
  exact bn.by_ [(12, .old 12),(210, .old 210),(211, .old 211),(212, .old 212),(213, .old 213),(214, .old 214),(215, .old 18)] _ 400 rfl (aa) (aa)
 ·conv=>whnf
  refine tI ?_
  conv=>whnf
  refine wj gz (Value.int .i64) ?_
  conv=>whnf
  repeat' ((first|refine nI ?_|refine aI ?_|refine tI ?_|refine fI ?_|fail);conv=>whnf)
  refine⟨7,?_,by omega,by dsimp only;omega⟩
  exact bn.by_ [(12, .old 12),(210, .old 210),(211, .old 211),(212, .old 212),(213, .old 213),(214, .old 214),(215, .old 215),(216, .old 18)] _ 400 rfl (aa) (aa)
 ·conv=>whnf
  refine fI ?_
  conv=>whnf
  (refine oP (hvf) ?_;conv=>whnf)
  refine aQ.loopF ae ag (fun n:Nat=>n<=vars.length) (fun n=>[(27, .int .i64 (n:Int))]) (fun n=>JQ p q sch vars n) (fun n=>vars.length-n) 0 (Nat.zero_le _) ?_;conv=>whnf
  refine⟨bn.by_ [(12, .old 12),(210, .old 210),(211, .old 211),(212, .old 212),(213, .old 213),(214, .old 214),(215, .old 215),(216, .old 216)] _ 400 rfl (aa) (aa),?_⟩
  rintro n hn
  conv=>whnf
  refine ah ?_ ?_<;>(intro h1;conv=>whnf)
  ·have hkn:=hk n (by omega)
   repeat' ((first|refine nI ?_|refine aI ?_|refine tI ?_|refine fI ?_|fail);conv=>whnf)
   have hno:∀k:Int,((vars.getD n dU).kind≠k)->kK vars k (n+1)=kK vars k n:=fun k=>Lj
   have hup:∀k:Int,((vars.getD n dU).kind=k)->kK vars k (n+1)=qE (kK vars k n) ((vars.getD n dU).seg,(vars.getD n dU).idx) (n:Int):=fun k=>Lk
   rw[tN]
   generalize vars.getD n dU=v at*
   obtain⟨kd,sg,ix⟩:=v
   dsimp only at hkn hno hup
   obtain rfl|rfl|rfl|rfl|rfl|rfl|rfl:kd=0\/kd=1\/kd=2\/kd=3\/kd=4\/kd=5\/kd=6:=by omega
   ·apply f7
    case k=>
     intro o1 o2 o3 o4 o5 o6
     refine lA [0,1,3,4,5,7,9,11,12] (by decide+kernel) ?_
     conv=>whnf
     repeat' first
      |exact True.intro
      |(refine And.intro ?_ ?_<;>conv=>whnf)
      |(refine bX (by clear o1 o2 o3 o4 o5 o6;dsimp only;omega) ?_;conv=>whnf)
      |(refine wm iH (sg,ix) (n:Int) rfl rfl ?_;conv=>whnf)
      |with_reducible exact o1
      |with_reducible exact o2
      |with_reducible exact o3
      |with_reducible exact o4
      |with_reducible exact o5
      |with_reducible exact o6
      |fail
    all_goals try first
     |exact True.intro
     |exact True
    all_goals
     repeat' ((first|refine nI ?_|refine aI ?_|refine tI ?_|refine fI ?_|fail);conv=>whnf)
     refine⟨n+1,?_,by omega,by dsimp only;omega⟩
     dsimp only
     unfold JQ
     rw[hno 1 (by decide),hno 2 (by decide),hno 3 (by decide),hno 4 (by decide),hno 5 (by decide),hno 6 (by decide),hup 0 rfl]
     exact bn.by_ [(12, .old 12),(210, .old 210),(211, .old 211),(212, .old 212),(213, .old 213),(214, .old 214),(215, .old 215),(216, .old 216)] _ 400 rfl (aa) (aa)
   ·apply f7
    case k=>
     intro o1 o2 o3 o4 o5 o6
     refine lA [0,1,3,4,5,7,9,11,12] (by decide+kernel) ?_
     conv=>whnf
     repeat' first
      |exact True.intro
      |(refine And.intro ?_ ?_<;>conv=>whnf)
      |(refine bX (by clear o1 o2 o3 o4 o5 o6;dsimp only;omega) ?_;conv=>whnf)
      |(refine wm iH (sg,ix) (n:Int) rfl rfl ?_;conv=>whnf)
      |with_reducible exact o1
      |with_reducible exact o2
      |with_reducible exact o3
      |with_reducible exact o4
      |with_reducible exact o5
      |with_reducible exact o6
      |fail
    all_goals try first
     |exact True.intro
     |exact True
    all_goals
     repeat' ((first|refine nI ?_|refine aI ?_|refine tI ?_|refine fI ?_|fail);conv=>whnf)
     refine⟨n+1,?_,by omega,by dsimp only;omega⟩
     dsimp only
     unfold JQ
     rw[hno 0 (by decide),hno 2 (by decide),hno 3 (by decide),hno 4 (by decide),hno 5 (by decide),hno 6 (by decide),hup 1 rfl]
     exact bn.by_ [(12, .old 12),(210, .old 210),(211, .old 211),(212, .old 212),(213, .old 213),(214, .old 214),(215, .old 215),(216, .old 216)] _ 400 rfl (aa) (aa)
   ·apply f7
    case k=>
     intro o1 o2 o3 o4 o5 o6
     refine lA [0,1,3,4,5,7,9,11,12] (by decide+kernel) ?_
     conv=>whnf
     repeat' first
      |exact True.intro
      |(refine And.intro ?_ ?_<;>conv=>whnf)
      |(refine bX (by clear o1 o2 o3 o4 o5 o6;dsimp only;omega) ?_;conv=>whnf)
      |(refine wm iH (sg,ix) (n:Int) rfl rfl ?_;conv=>whnf)
      |with_reducible exact o1
      |with_reducible exact o2
      |with_reducible exact o3
      |with_reducible exact o4
      |with_reducible exact o5
      |with_reducible exact o6
      |fail
    all_goals try first
     |exact True.intro
     |exact True
    all_goals
     repeat' ((first|refine nI ?_|refine aI ?_|refine tI ?_|refine fI ?_|fail);conv=>whnf)
     refine⟨n+1,?_,by omega,by dsimp only;omega⟩
     dsimp only
     unfold JQ
     rw[hno 0 (by decide),hno 1 (by decide),hno 3 (by decide),hno 4 (by decide),hno 5 (by decide),hno 6 (by decide),hup 2 rfl]
     exact bn.by_ [(12, .old 12),(210, .old 210),(211, .old 211),(212, .old 212),(213, .old 213),(214, .old 214),(215, .old 215),(216, .old 216)] _ 400 rfl (aa) (aa)
   ·apply f7
    case k=>
     intro o1 o2 o3 o4 o5 o6
     refine lA [0,1,3,4,5,7,9,11,12] (by decide+kernel) ?_
     conv=>whnf
     repeat' first
      |exact True.intro
      |(refine And.intro ?_ ?_<;>conv=>whnf)
      |(refine bX (by clear o1 o2 o3 o4 o5 o6;dsimp only;omega) ?_;conv=>whnf)
      |(refine wm iH (sg,ix) (n:Int) rfl rfl ?_;conv=>whnf)
      |with_reducible exact o1
      |with_reducible exact o2
      |with_reducible exact o3
      |with_reducible exact o4
      |with_reducible exact o5
      |with_reducible exact o6
      |fail
    all_goals try first
     |exact True.intro
     |exact True
    all_goals
     repeat' ((first|refine nI ?_|refine aI ?_|refine tI ?_|refine fI ?_|fail);conv=>whnf)
     refine⟨n+1,?_,by omega,by dsimp only;omega⟩
     dsimp only
     unfold JQ
     rw[hno 0 (by decide),hno 1 (by decide),hno 2 (by decide),hno 4 (by decide),hno 5 (by decide),hno 6 (by decide),hup 3 rfl]
     exact bn.by_ [(12, .old 12),(210, .old 210),(211, .old 211),(212, .old 212),(213, .old 213),(214, .old 214),(215, .old 215),(216, .old 216)] _ 400 rfl (aa) (aa)
   ·apply f7
    case k=>
     intro o1 o2 o3 o4 o5 o6
     refine lA [0,1,3,4,5,7,9,11,12] (by decide+kernel) ?_
     conv=>whnf
     repeat' first
      |exact True.intro
      |(refine And.intro ?_ ?_<;>conv=>whnf)
      |(refine bX (by clear o1 o2 o3 o4 o5 o6;dsimp only;omega) ?_;conv=>whnf)
      |(refine wm iH (sg,ix) (n:Int) rfl rfl ?_;conv=>whnf)
      |with_reducible exact o1
      |with_reducible exact o2
      |with_reducible exact o3
      |with_reducible exact o4
      |with_reducible exact o5
      |with_reducible exact o6
      |fail
    all_goals try first
     |exact True.intro
     |exact True
    all_goals
     repeat' ((first|refine nI ?_|refine aI ?_|refine tI ?_|refine fI ?_|fail);conv=>whnf)
     refine⟨n+1,?_,by omega,by dsimp only;omega⟩
     dsimp only
     unfold JQ
     rw[hno 0 (by decide),hno 1 (by decide),hno 2 (by decide),hno 3 (by decide),hno 5 (by decide),hno 6 (by decide),hup 4 rfl]
     exact bn.by_ [(12, .old 12),(210, .old 210),(211, .old 211),(212, .old 212),(213, .old 213),(214, .old 214),(215, .old 215),(216, .old 216)] _ 400 rfl (aa) (aa)
   ·apply f7
    case k=>
     intro o1 o2 o3 o4 o5 o6
     refine lA [0,1,3,4,5,7,9,11,12] (by decide+kernel) ?_
     conv=>whnf
     repeat' first
      |exact True.intro
      |(refine And.intro ?_ ?_<;>conv=>whnf)
      |(refine bX (by clear o1 o2 o3 o4 o5 o6;dsimp only;omega) ?_;conv=>whnf)
      |(refine wm iH (sg,ix) (n:Int) rfl rfl ?_;conv=>whnf)
      |with_reducible exact o1
      |with_reducible exact o2
      |with_reducible exact o3
      |with_reducible exact o4
      |with_reducible exact o5
      |with_reducible exact o6
      |fail
    all_goals try first
     |exact True.intro
     |exact True
    all_goals
     repeat' ((first|refine nI ?_|refine aI ?_|refine tI ?_|refine fI ?_|fail);conv=>whnf)
     refine⟨n+1,?_,by omega,by dsimp only;omega⟩
     dsimp only
     unfold JQ
     rw[hno 0 (by decide),hno 1 (by decide),hno 2 (by decide),hno 3 (by decide),hno 4 (by decide),hno 6 (by decide),hup 5 rfl]
     exact bn.by_ [(12, .old 12),(210, .old 210),(211, .old 211),(212, .old 212),(213, .old 213),(214, .old 214),(215, .old 215),(216, .old 216)] _ 400 rfl (aa) (aa)
   ·apply f7
    case k=>
     intro o1 o2 o3 o4 o5 o6
     refine lA [0,1,3,4,5,7,9,11,12] (by decide+kernel) ?_
     conv=>whnf
     repeat' first
      |exact True.intro
      |(refine And.intro ?_ ?_<;>conv=>whnf)
      |(refine bX (by clear o1 o2 o3 o4 o5 o6;dsimp only;omega) ?_;conv=>whnf)
      |(refine wm iH (sg,ix) (n:Int) rfl rfl ?_;conv=>whnf)
      |with_reducible exact o1
      |with_reducible exact o2
      |with_reducible exact o3
      |with_reducible exact o4
      |with_reducible exact o5
      |with_reducible exact o6
      |fail
    all_goals try first
     |exact True.intro
     |exact True
    all_goals
     repeat' ((first|refine nI ?_|refine aI ?_|refine tI ?_|refine fI ?_|fail);conv=>whnf)
     refine⟨n+1,?_,by omega,by dsimp only;omega⟩
     dsimp only
     unfold JQ
     rw[hno 0 (by decide),hno 1 (by decide),hno 2 (by decide),hno 3 (by decide),hno 4 (by decide),hno 5 (by decide),hup 6 rfl]
     exact bn.by_ [(12, .old 12),(210, .old 210),(211, .old 211),(212, .old 212),(213, .old 213),(214, .old 214),(215, .old 215),(216, .old 216)] _ 400 rfl (aa) (aa)
  ·obtain rfl:n=vars.length:=by omega
   exact⟨rfl,(aa)⟩
theorem pf {p:an} {q:aG} {sch:List Int} {v:Vb} (h:v∈ak p q sch):0<=v.kind/\v.kind<7:=by
 unfold ak at h
 rcases List.mem_append.1 h with h|h
 ·rcases List.mem_append.1 h with h|h
  ·simp only[List.mem_cons,List.not_mem_nil,or_false] at h
   rcases h with rfl|rfl|rfl<;>exact⟨by decide,by decide⟩
  ·unfold pP at h
   rcases List.mem_append.1 h with h|h
   ·obtain⟨x,_,rfl⟩:=List.mem_map.1 h
    exact⟨by dsimp only;omega,by dsimp only;omega⟩
   ·split at h
    ·obtain⟨x,_,rfl⟩:=List.mem_map.1 h
     exact⟨by dsimp only;omega,by dsimp only;omega⟩
    ·cases h
 ·obtain⟨j,_,h⟩:=List.mem_flatMap.1 h
  obtain⟨r,_,h⟩:=dp h
  have:=(d4 h).1
  omega
theorem xp {p:an} (hv:aA p=0) (i:Nat) (hi:i<p.rules.length):(p.rules.getD i ap).send.length<=60:=by
 have h:=eW hv
 have h1:¬oM (p.rules.getD i ap):=fun hb=>h (by unfold dX;exact .inr (.inr (.inr (.inr (.inr (.inr (.inr (.inr (.inl ⟨i,hi,hb⟩)))))))))
 unfold oM at h1
 omega
def gM:List kG:=[⟨-1,1,0,0⟩,⟨0,1,-1,0⟩,⟨0,1,0,-1⟩]
def pg (vars:List Vb) (ls:List kG):List fo:=ls.map fun l=>c6 vars (o0 l)
theorem nM (vars:List Vb) (ls:List kG) (l:kG):pg vars (ls++[l])=pg vars ls++[c6 vars (o0 l)]:=by unfold pg;rw[List.map_append];rfl
theorem tC (ls:List kG) (x:Nat) (hx:x<ls.length):ls.take (x+1)=ls.take x++[ls.getD (x:Int).toNat fQ]:=by
 rw[tN,List.take_succ_eq_append_getElem hx,av fQ hx]
def zh (p:an) (sch:List Int) (vars:List Vb) (n:Nat):List fo:=((List.range n).flatMap (ko p sch)).map (c6 vars)
theorem xq (p:an) (sch:List Int) (vars:List Vb) (n:Nat):zh p sch vars (n+1)=zh p sch vars n++(ko p sch n).map (c6 vars):=by
 unfold zh
 rw[List.range_succ,List.flatMap_append,List.map_append]
 simp
theorem FL (p:an) (q:aG) (hq:aP p q=0) (sch:List Int) (hs:da (ax p.rules).length sch) (number:Int) (hb:number<=1000000):ab Tryz.prog 38 [.pd (dQ p q), .sl 0 ao sch, .int .i64 number]
  (fun u=>u= .agg [.int .i64 (ak p q sch).length, .sl cP dM (d9 p q sch number)]):=by
 have vq:=aF hq
 have hV:=vq.vld
 have w:=aL hV
 have wl:=w.len
 have hT:=w.thr
 have hsl:=c5 hs
 have hvl:=eK hq hs
 have hnd:=bu hq sch
 have hbeg:=Ll p q sch hq hs fun n hn=>pf (aB (l:=ak p q sch) dU hn)
 have hpar:=fun rows (hr:rows.length<=1000000) l (hl:eh l)=>NZ p q sch (ak p q sch) rows hnd (by omega) hr l hl
 have hsta:=fun rows (hr:rows.length<=1000000) kind hk l hl=>N3 p q sch (ak p q sch) rows hnd (by omega) hr (by omega) kind hk l hl
 have hseg:=fun rows (hr:rows.length<=100000) j hj=>N6 p q sch (ak p q sch) rows hnd (by omega) hr (by omega) (by omega) (fun i hi=>by have:=xp hV i hi;omega) (by omega) (fun g hg=>(o9 hV hg).2) hs j hj
 have hvio:=fun rows (hr:rows.length<=100000) (m:Nat) (hm:m<=1000000)=>N8 p q sch (ak p q sch) rows hnd (by omega) hr (by omega) (by omega) (fun i hi=>by have:=xp hV i hi;omega) (by omega) hV
  (fun k=>⟨by have:=(vq.bad k).1;omega,fun i hi=>by
   have c:=jB vq k hi
   have:=bv c.1
   omega⟩)
  (by
   rcases vq.kind with k|k
   ·have:=vq.shp;omega
   ·have:=bv (vq.goal k).1;omega)
  (fun i hi=>⟨fun g hg=>(gn (w.rul i hi) hg).2,by have:=fq hV i hi;omega⟩) m hm
 have hbl:∀l∈iT p,eh l:=Fa hV
 have hblit:∀x:Nat,x<3->eh (gM.getD (x:Int).toNat fQ):=fun x hx=>hbl _ (by
  unfold iT
  rw[tN]
  exact List.mem_append_left _ (List.mem_append_left _ (aB (l:=gM) fQ hx)))
 have hbres:∀x:Nat,x<p.resilience.length->eh (p.resilience.getD (x:Int).toNat fQ):=fun x hx=>hbl _ (by
  unfold iT
  rw[tN]
  exact List.mem_append_right _ (aB (l:=p.resilience) fQ hx))
 have fB:∀a b c d:Int,-100<=a/\a<=100->-100<=b/\b<=100->-100<=c/\c<=100->-100<=d/\d<=100->eh ⟨a,b,c,d⟩:=fun a b c d h1 h2 h3 h4=>⟨h1,h2,h3,h4⟩
 have hsys:d9 p q sch number=(pg (ak p q sch) (iT p)++(jE p).map (c6 (ak p q sch))++zh p sch (ak p q sch) (sch.length+1))++(if 0<=number then(gS p q sch.length number.toNat).map (c6 (ak p q sch)) else[]):=by
  unfold d9 fg pg zh
  rw[List.map_append,List.map_append,List.map_append,List.map_map]
  congr 1
  split<;>rfl
 have hsel:∀n,n<=sch.length+1->(zh p sch (ak p q sch) n).length<=20*n:=by
  intro n
  induction n with
  |zero=>intro _;simp[zh]
  |succ n ih=>
   intro hn
   rw[xq,List.length_append,List.length_map]
   have a:=ih (by omega)
   have:(ko p sch n).length<=20:=by
    unfold ko
    rw[List.length_append,List.length_append]
    split<;>split<;>simp<;>omega
   omega
 have hpal:(pg (ak p q sch) (iT p)).length<=9:=by unfold pg iT;rw[List.length_map,List.length_append,List.length_append];split<;>simp<;>omega
 have hstl:((jE p).map (c6 (ak p q sch))).length<=4:=by unfold jE;rw[List.length_map,List.length_append];split<;>simp
 have hpe:iT p=gM++(if p.fault=0 then[⟨0,0,-1,0⟩,⟨0,0,0,-1⟩] else[])++p.resilience:=rfl
 rw[hsys]
 clear hsys hbl
 generalize hvv:ak p q sch=vars at*
 refine ab.intro ae ag Tryz.func38 rfl (by decide) ?_;(conv=>whnf)
 refine am.news 400 cH (cG p q sch vars []) (.ptr 200 0) hbeg (aa) rfl (by rintro u M' ⟨rfl,rfl⟩;exact⟨(aa),(aa)⟩) ?_
 conv=>whnf
 refine cf fQ cI gM rfl ?_
 conv=>whnf
 refine aQ.loopF ae ag (fun x:Nat=>x<=3) (fun x=>[(21, .int .i64 (x:Int))]) (fun x=>[(6, .box 46 [.int .i64 0, .nilsl]),(19, .row 182 fQ cI gM)]++cG p q sch vars (pg vars (gM.take x))) (fun x=>3-x) 0 (Nat.zero_le _) ?_;conv=>whnf
 refine⟨bn.by_ ((6, .old 6)::(19, .old 19)::cH) _ 400 rfl (aa) (aa),?_⟩
 rintro x hx
 conv=>whnf
 refine ah ?_ ?_<;>(intro h1;conv=>whnf)
 ·have hx3:x<3:=by have:(gM.length:Int)=3:=rfl;omega
  have hc:=hpar (pg vars (gM.take x)) (by unfold pg;rw[List.length_map,List.length_take];omega) _ (hblit x hx3)
  rw[<-nM,<-tC gM x hx3] at hc
  repeat' ((first|refine nI ?_|refine aI ?_|refine tI ?_|refine fI ?_|fail);conv=>whnf)
  refine am.call cH (cG p q sch vars (pg vars (gM.take x))) 400 rfl (aa) (aa) hc ?_
  rintro u M' ⟨rfl,rfl⟩
  refine⟨uX,nH p q sch vars (pg vars (gM.take (x+1))), .tup [],rfl,(aa),trivial,?_⟩
  conv=>whnf
  repeat' ((first|refine nI ?_|refine aI ?_|refine tI ?_|refine fI ?_|fail);conv=>whnf)
  refine⟨x+1,?_,by omega,by dsimp only;omega⟩
  exact bn.by_ [(6, .old 6),(19, .old 19),(200, .old 200),(201, .old 202),(210, .old 210),(211, .old 211),(212, .old 212),(213, .old 213),(214, .old 214),(215, .old 215),(216, .old 216)] _ 400 rfl (aa) (aa)
 ·obtain rfl:x=3:=by have:(gM.length:Int)=3:=rfl;omega
  rw[show gM.take 3=gM from rfl]
  obtain⟨LL,hLL⟩:∃LL:List kG,LL=gM++(if p.fault=0 then[⟨0,0,-1,0⟩,⟨0,0,0,-1⟩] else[]):=⟨_,rfl⟩
  have hL1:p.fault=0->LL=gM++([⟨0,0,-1,0⟩]++[⟨0,0,0,-1⟩]):=fun h=>by rw[hLL,if_pos h];rfl
  have hL2:¬p.fault=0->LL=gM:=fun h=>by rw[hLL,if_neg h,List.append_nil]
  have hLl:LL.length<=5:=by rw[hLL];unfold gM;split<;>simp
  rw[<-hLL] at hpe
  clear hLL
  apply once (A:=aQ Tryz.prog _ (.loop _) ([.pd (dQ p q), .sl 0 ao sch, .int .i64 number, .top, .top, .top, .ptr 6 0, .ptr 200 0]++List.replicate 37 .top++[.sl fQ cI p.resilience, .int .i64 (p.resilience.length:Int), .int .i64 0]++List.replicate 39 .top) (aj.ofL ((6, .box 46 [.int .i64 0, .nilsl])::cG p q sch vars (pg vars LL))) _)
  case k=>
   intro hs0
   refine ah (fun hf=>?_) (fun hf=>?_)
   rotate_left
   ·conv=>whnf
    exact aQ.sub (by rw[hL2 hf];exact bn.by_ [(6, .old 6),(200, .old 200),(201, .old 201),(210, .old 210),(211, .old 211),(212, .old 212),(213, .old 213),(214, .old 214),(215, .old 215),(216, .old 216)] _ 400 rfl (aa) (aa)) hs0
   ·have c1:=hpar (pg vars gM) (by unfold pg gM;simp) ⟨0,0,-1,0⟩ (fB _ _ _ _ (by omega) (by omega) (by omega) (by omega))
    rw[<-nM] at c1
    have c2:=hpar (pg vars (gM++[⟨0,0,-1,0⟩])) (by unfold pg gM;simp) ⟨0,0,0,-1⟩ (fB _ _ _ _ (by omega) (by omega) (by omega) (by omega))
    rw[<-nM,List.append_assoc] at c2
    simp only[mg,mf,cu,List.set]
    refine gK ?_
    refine pF rfl ?_
    refine fh ?_
    refine dS ?_
    refine bc (.ptr 200 0) rfl (fun K' h=>?_) rfl ?_
    ·conv=>whnf
     exact h
    refine bc (.agg (cI ⟨0,0,-1,0⟩)) rfl (fun K' h=>?_) rfl ?_
    ·conv=>whnf
     exact h
    refine gp rfl rfl ?_
    refine am.call cH (cG p q sch vars (pg vars gM)) 400 rfl (aa) (aa) c1 ?_
    rintro u M' ⟨rfl,rfl⟩
    refine⟨uX,nH p q sch vars (pg vars (gM++[⟨0,0,-1,0⟩])), .tup [],rfl,(aa),trivial,?_⟩
    simp only[mg,mf,cu,List.set]
    refine gK ?_
    refine dS ?_
    refine bc (.ptr 200 0) rfl (fun K' h=>?_) rfl ?_
    ·conv=>whnf
     exact h
    refine bc (.agg (cI ⟨0,0,0,-1⟩)) rfl (fun K' h=>?_) rfl ?_
    ·conv=>whnf
     exact h
    refine gp rfl rfl ?_
    refine am.call FJ (cG p q sch vars (pg vars (gM++[⟨0,0,-1,0⟩]))) 400 rfl (aa) (aa) c2 ?_
    rintro u M' ⟨rfl,rfl⟩
    refine⟨IA,ND p q sch vars (pg vars (gM++([⟨0,0,-1,0⟩]++[⟨0,0,0,-1⟩]))), .tup [],rfl,(aa),trivial,?_⟩
    simp only[mg,mf,cu,List.set]
    refine gK ?_
    conv=>whnf
    exact aQ.sub (by rw[hL1 hf];exact bn.by_ [(6, .old 6),(200, .old 200),(201, .old 203),(210, .old 210),(211, .old 211),(212, .old 212),(213, .old 213),(214, .old 214),(215, .old 215),(216, .old 216)] _ 400 rfl (aa) (aa)) hs0
  case h=>
   refine aQ.loopF ae ag (fun x:Nat=>x<=p.resilience.length) (fun x=>[(47, .int .i64 (x:Int))]) (fun x=>(6, .box 46 [.int .i64 0, .nilsl])::cG p q sch vars (pg vars (LL++p.resilience.take x))) (fun x=>p.resilience.length-x) 0 (Nat.zero_le _) ?_;conv=>whnf
   refine⟨by rw[List.take_zero,List.append_nil];exact bn.by_ ((6, .old 6)::cH) _ 400 rfl (aa) (aa),?_⟩
   rintro x hx
   conv=>whnf
   refine ah ?_ ?_<;>(intro h1;conv=>whnf)
   ·have hxl:x<p.resilience.length:=by omega
    have hc:=hpar (pg vars (LL++p.resilience.take x)) (by unfold pg;simp only[List.length_map,List.length_append,List.length_take];omega) _ (hbres x hxl)
    rw[<-nM,List.append_assoc,<-tC p.resilience x hxl] at hc
    repeat' ((first|refine nI ?_|refine aI ?_|refine tI ?_|refine fI ?_|fail);conv=>whnf)
    refine am.call cH (cG p q sch vars (pg vars (LL++p.resilience.take x))) 400 rfl (aa) (aa) hc ?_
    rintro u M' ⟨rfl,rfl⟩
    refine⟨uX,nH p q sch vars (pg vars (LL++p.resilience.take (x+1))), .tup [],rfl,(aa),trivial,?_⟩
    conv=>whnf
    repeat' ((first|refine nI ?_|refine aI ?_|refine tI ?_|refine fI ?_|fail);conv=>whnf)
    refine⟨x+1,?_,by omega,by dsimp only;omega⟩
    exact bn.by_ [(6, .old 6),(200, .old 200),(201, .old 202),(210, .old 210),(211, .old 211),(212, .old 212),(213, .old 213),(214, .old 214),(215, .old 215),(216, .old 216)] _ 400 rfl (aa) (aa)
   ·obtain rfl:x=p.resilience.length:=by omega
    rw[List.take_length,<-hpe]
    generalize hPP:pg vars (iT p)=PA at*
    have c3:=hsta PA (by omega) 3 (by omega) ⟨0,1,0,-1⟩ (fB _ _ _ _ (by omega) (by omega) (by omega) (by omega))
    have hS1:jC p->(jE p).map (c6 vars)=[c6 vars (eM 3 p.states.length 1 ⟨0,1,0,-1⟩),c6 vars (eM 3 p.states.length (-1) ⟨0,1,0,-1⟩)]++[c6 vars (eM 4 p.states.length 1 ⟨0,0,0,1⟩),c6 vars (eM 4 p.states.length (-1) ⟨0,0,0,1⟩)]:=fun h=>by unfold jE;rw[if_pos h];rfl
    have hS2:¬jC p->(jE p).map (c6 vars)=[c6 vars (eM 3 p.states.length 1 ⟨0,1,0,-1⟩),c6 vars (eM 3 p.states.length (-1) ⟨0,1,0,-1⟩)]:=fun h=>by unfold jE;rw[if_neg h];rfl
    have c4:=hsta (PA++[c6 vars (eM 3 p.states.length 1 ⟨0,1,0,-1⟩),c6 vars (eM 3 p.states.length (-1) ⟨0,1,0,-1⟩)]) (by simp only[List.length_append,List.length_cons,List.length_nil];omega) 4 (by omega) ⟨0,0,0,1⟩ (fB _ _ _ _ (by omega) (by omega) (by omega) (by omega))
    rw[List.append_assoc] at c4
    generalize (jE p).map (c6 vars)=SA at*
    refine am.call cH (cG p q sch vars PA) 400 rfl (aa) (aa) c3 ?_
    rintro u M' ⟨rfl,rfl⟩
    refine⟨uX,nH p q sch vars (PA++[c6 vars (eM 3 p.states.length 1 ⟨0,1,0,-1⟩),c6 vars (eM 3 p.states.length (-1) ⟨0,1,0,-1⟩)]), .tup [],rfl,(aa),trivial,?_⟩
    conv=>whnf
    apply once (A:=aQ Tryz.prog _ (.loop _) ([.pd (dQ p q), .sl 0 ao sch, .int .i64 number, .top, .top, .top, .ptr 6 0, .ptr 200 0]++List.replicate 57 .top++[.int .i64 ((sch.length:Int)+1), .int .i64 0]++List.replicate 20 .top) (aj.ofL ((6, .box 46 [.int .i64 0, .nilsl])::cG p q sch vars (PA++SA))) _)
    case k=>
     intro hs1
     refine dC (iE p q) (fun _=>?_) (fun _=>?_)<;>(conv=>whnf)
     ·rename_i hw
      rw[<-hS1 hw] at c4
      refine am.call FJ (cG p q sch vars (PA++[c6 vars (eM 3 p.states.length 1 ⟨0,1,0,-1⟩),c6 vars (eM 3 p.states.length (-1) ⟨0,1,0,-1⟩)])) 400 rfl (aa) (aa) c4 ?_
      rintro u M' ⟨rfl,rfl⟩
      refine⟨IA,ND p q sch vars (PA++SA), .tup [],rfl,(aa),trivial,?_⟩
      conv=>whnf
      repeat' ((first|refine nI ?_|refine aI ?_|refine tI ?_|refine fI ?_|fail);conv=>whnf)
      exact aQ.sub (bn.by_ [(6, .old 6),(200, .old 200),(201, .old 203),(210, .old 210),(211, .old 211),(212, .old 212),(213, .old 213),(214, .old 214),(215, .old 215),(216, .old 216)] _ 400 rfl (aa) (aa)) hs1
     ·rename_i hw
      repeat' ((first|refine nI ?_|refine aI ?_|refine tI ?_|refine fI ?_|fail);conv=>whnf)
      exact aQ.sub (by rw[hS2 hw];exact bn.by_ [(6, .old 6),(200, .old 200),(201, .old 202),(210, .old 210),(211, .old 211),(212, .old 212),(213, .old 213),(214, .old 214),(215, .old 215),(216, .old 216)] _ 400 rfl (aa) (aa)) hs1
    case h=>
     refine aQ.loopF ae ag (fun x:Nat=>x<=sch.length+1) (fun x=>[(66, .int .i64 (x:Int))]) (fun x=>(6, .box 46 [.int .i64 0, .nilsl])::cG p q sch vars (PA++SA++zh p sch vars x)) (fun x=>sch.length+1-x) 0 (Nat.zero_le _) ?_;conv=>whnf
     refine⟨by rw[show zh p sch vars 0=[] from rfl,List.append_nil];exact bn.by_ ((6, .old 6)::cH) _ 400 rfl (aa) (aa),?_⟩
     rintro x hx
     conv=>whnf
     refine ah ?_ ?_<;>(intro h1;conv=>whnf)
     ·have hxl:x<=sch.length:=by omega
      have hc:=hseg (PA++SA++zh p sch vars x) (by have:=hsel x (by omega);simp only[List.length_append];omega) x hxl
      rw[List.append_assoc (PA++SA),<-xq] at hc
      repeat' ((first|refine nI ?_|refine aI ?_|refine tI ?_|refine fI ?_|fail);conv=>whnf)
      refine am.call cH (cG p q sch vars (PA++SA++zh p sch vars x)) 400 rfl (aa) (aa) hc ?_
      rintro u M' ⟨rfl,rfl⟩
      refine⟨uX,nH p q sch vars (PA++SA++zh p sch vars (x+1)), .tup [],rfl,(aa),trivial,?_⟩
      conv=>whnf
      repeat' ((first|refine nI ?_|refine aI ?_|refine tI ?_|refine fI ?_|fail);conv=>whnf)
      refine⟨x+1,?_,by omega,by dsimp only;omega⟩
      exact bn.by_ [(6, .old 6),(200, .old 200),(201, .old 202),(210, .old 210),(211, .old 211),(212, .old 212),(213, .old 213),(214, .old 214),(215, .old 215),(216, .old 216)] _ 400 rfl (aa) (aa)
     ·obtain rfl:x=sch.length+1:=by omega
      have hse:=hsel (sch.length+1) (by omega)
      refine ah ?_ ?_<;>(intro hz;conv=>whnf)
      ·rw[if_pos hz]
       have hc:=hvio (PA++SA++zh p sch vars (sch.length+1)) (by simp only[List.length_append];omega) number.toNat (by omega)
       rw[Int.toNat_of_nonneg hz] at hc
       refine am.call cH (cG p q sch vars (PA++SA++zh p sch vars (sch.length+1))) 400 rfl (aa) (aa) hc ?_
       rintro u M' ⟨rfl,rfl⟩
       refine⟨uX,nH p q sch vars (PA++SA++zh p sch vars (sch.length+1)++(gS p q sch.length number.toNat).map (c6 vars)), .tup [],rfl,(aa),trivial,?_⟩
       conv=>whnf
       refine lz [0,1,2,4,5,6,8] (by decide+kernel) ?_
       conv=>whnf
       repeat' first
        |exact True.intro
        |(refine And.intro ?_ ?_<;>conv=>whnf)
        |exact rfl
        |fail
      ·rw[if_neg hz,List.append_nil]
       refine lz [0,1,2,4,5,6,8] (by decide+kernel) ?_
       conv=>whnf
       repeat' first
        |exact True.intro
        |(refine And.intro ?_ ?_<;>conv=>whnf)
        |exact rfl
        |fail
noncomputable def IE (p:an) (q:aG) (sch:List Int) (number:Int):AV:=
 if cb p q≠0 then .tup [.agg [.int .i64 0, .nilsl], .int .i64 (cb p q)]
 else if¬da (ax p.rules).length sch\/number< -1\/(oX p q:Int)<=number then .tup [.agg [.int .i64 0, .nilsl], .int .i64 1]
 else .tup [.agg [.int .i64 (ak p q sch).length, .sl cP dM (d9 p q sch number)], .int .i64 0]
theorem FM (p:an) (q:aG) (hp:iO p) (hq:pN q) (sch:List Int) (hl:sch.length<=140737488355328) (number:Int):ab Tryz.prog 26 [.agg (aR p), .agg (df q), .sl 0 ao sch, .int .i64 number] (fun u=>u=IE p q sch number):=by
 have he:=IE.eq_1 p q sch number
 refine ab.intro ae ag Tryz.func26 rfl (by decide) ?_;(conv=>whnf)
 refine al rfl ?_
 conv=>whnf
 refine al rfl ?_
 conv=>whnf
 refine am.of_pure (n:=5) (pD p q hp hq) (by rfl) ?_
 rintro _ rfl
 by_cases h:cb p q=0
 ·rw[if_neg (by omega)] at he
  rw[gy h]
  have hcs:=Fr h
  conv=>whnf
  refine fI ?_
  conv=>whnf
  refine dC (pc p q sch hl) (fun _=>?_) (fun _=>?_)<;>(conv=>whnf)
  ·rename_i hs
   refine ah ?_ ?_<;>(intro h1;conv=>whnf)
   ·rw[if_pos (.inr (.inl h1))] at he
    exact⟨he.symm,rfl⟩
   refine ah ?_ ?_<;>(intro h2;conv=>whnf)
   ·rw[if_pos (.inr (.inr (by omega)))] at he
    exact⟨he.symm,rfl⟩
   rw[if_neg (fun hh=>by rcases hh with hh|hh|hh;exact hh hs;omega;omega)] at he
   (refine oP (FL p q (db h) sch hs number (by omega)) ?_;conv=>whnf)
   exact⟨he.symm,rfl⟩
  ·rename_i hs
   rw[if_pos (.inl hs)] at he
   exact⟨he.symm,rfl⟩
 ·rw[if_pos h] at he
  rw[eX rfl h]
  conv=>whnf
  refine cC h ?_
  conv=>whnf
  exact⟨he.symm,rfl⟩
end Go.Proofs.YtekmminpfhacpaaGreatDoor
