import Derived.Test.YtnjggjhkfncnlaaGreatDoorW2
import Derived.Test.YtnjggjhkfncnlaaGreatDoorV1
set_option linter.unusedVariables false
set_option linter.unusedSimpArgs false
namespace Go.Proofs.YtnjggjhkfncnlaaGreatDoor
set_option maxRecDepth 100000
set_option maxHeartbeats 16000000
def Fp:cT:=[(200, .old 200),(202, .old 201),(203, .old 202),(210, .old 210),(211, .old 211),(212, .old 212),(213, .old 213),(214, .old 214),(215, .old 215),(216, .old 216)]
def KL:cT:=[(200, .old 200),(201, .old 201),(202, .old 203),(210, .old 210),(211, .old 211),(212, .old 212),(213, .old 213),(214, .old 214),(215, .old 215),(216, .old 216)]
noncomputable abbrev JU (p:au) (q:aV) (sch:List Int) (vars:List Vb) (rows:List cK):List (Nat×cn):=
 [(200, .box 76 (Gc p q sch vars.length 203 rows.length)),(202, .dead),(203, .row 154 bz bE rows),(210,fM vars 0),(211,fM vars 1),(212,fM vars 2),(213,fM vars 3),(214,fM vars 4),(215,fM vars 5),(216,fM vars 6)]
def oL (goal:List Int) (x:Nat):List Int:=((List.range x).map fun x:Nat=>(x:Int)).filter fun x=>decide (x∉goal)
theorem yA (goal:List Int):oL goal 0=[]:=rfl
theorem yB (goal:List Int) (x:Nat):oL goal (x+1)=oL goal x++if(x:Int)∈goal then[] else[(x:Int)]:=by
 unfold oL
 rw[List.range_succ,List.map_append,List.filter_append]
 congr 1
 by_cases h:(x:Int)∈goal<;>simp[h]
theorem CY (goal:List Int) (x:Nat):(oL goal x).length<=x:=by
 unfold oL
 have:=List.length_filter_le (fun x=>decide (x∉goal)) ((List.range x).map fun x:Nat=>(x:Int))
 simpa using this
theorem Ko (p:au) (q:aV) (sch:List Int) (vars:List Vb) (rows:List cK) (hn:vars.Nodup) (hv:vars.length<=1000000) (hr:rows.length<=100000) (hst:p.states.length<=1000) (hrl:p.rules.length<=1000) (hsd:∀i,i<p.rules.length->(p.rules.getD i ar).send.length<=1000000) (hsl:sch.length<=9)
  (hV:aB p=0) (hbad:q.kind=1->q.bad.length<=1000/\∀i,i<q.bad.length->(q.bad.getD i bP).states.length<=10000/\0<=(q.bad.getD i bP).least/\(q.bad.getD i bP).least<=1000) (hgo:q.goal.length<=1000000)
  (hg:∀i,i<p.rules.length->(∀g∈(p.rules.getD i ar).guards,(1<=g.coef/\g.coef<=100)/\c6 g.bound)/\(p.rules.getD i ar).guards.length<=1000) (number:Nat) (hnu:number<=1000000):
  ak Tryz.prog 96 [.ptr 200 0, .int .i64 (number:Int)] (aj.ofL (c9 p q sch vars rows))
   (fun u M=>u= .tup []/\M=aj.ofL (mH p q sch vars (rows++(lQ p q sch.length number).map (aN vars)))):=by
 refine ak.renorm 400 (R:=fun u M=>u= .tup []/\cU tv 400 M (mH p q sch vars (rows++(lQ p q sch.length number).map (aN vars)))) ?_ ?_
 case refine_2=>
  rintro u M ⟨rfl,hM⟩
  exact⟨tv,_, .tup [],rfl,hM,trivial,rfl,rfl⟩
 have hch:=Ff p q hV number hnu
 by_cases hk:q.kind=1
 ·obtain⟨hbl,hbad⟩:=hbad hk
  obtain⟨R,hR⟩:∃R:Nat->List cK,R=fun x=>rows++(q.bad.take x).map fun c=>aN vars (qT p sch.length c.states c.least):=⟨_,rfl⟩
  have hR0:R 0=rows:=by rw[hR];simp
  have hRn:∀x,x<q.bad.length->R (x+1)=R x++[aN vars (qT p sch.length (q.bad.getD (x:Int).toNat bP).states (q.bad.getD (x:Int).toNat bP).least)]:=fun x hx=>by
   rw[hR,tN]
   dsimp only
   rw[List.take_succ_eq_append_getElem hx,List.map_append,<-List.append_assoc,ay bP hx]
   rfl
  have hRl:∀x,x<=q.bad.length->(R x).length<=102000:=fun x hx=>by
   rw[hR];simp only[List.length_append,List.length_map,List.length_take];omega
  have hend:rows++(lQ p q sch.length number).map (aN vars)=R q.bad.length:=by
   rw[hR];dsimp only;rw[List.take_length];unfold lQ;rw[if_pos hk,List.map_map];rfl
  rw[hend]
  have ha:=fun x (hx:x<q.bad.length)=>Jc p q sch vars (R x) hn hv (by have:=hRl x (by omega);omega) hrl (by omega) (q.bad.getD (x:Int).toNat bP).states (by rw[tN];exact(hbad x hx).1) (q.bad.getD (x:Int).toNat bP).least (by rw[tN];exact(hbad x hx).2)
  have ha:∀x,x<q.bad.length->ak Tryz.prog 170 [.ptr 200 0, .sl 0 an (q.bad.getD (x:Int).toNat bP).states, .int .i64 (q.bad.getD (x:Int).toNat bP).least] (aj.ofL (c9 p q sch vars (R x)))
    (fun u M=>u= .tup []/\M=aj.ofL (mH p q sch vars (R (x+1)))):=fun x hx=>by rw[hRn x hx];exact ha x hx
  clear hR hRn hend
  refine ak.intro ac ag (c9 p q sch vars rows) Tryz.func96 rfl (by decide) ?_
  conv=>whnf
  refine da hk ?_
  conv=>whnf
  refine aH.loopF ac ag (fun x:Nat=>x<=q.bad.length) (fun x=>[(28, .int .i64 (x:Int))]) (fun x=>mH p q sch vars (R x)) (fun x=>q.bad.length-x) 0 (Nat.zero_le _) ?_;conv=>whnf
  refine⟨by rw[hR0];exact aL.by_ Kh _ 400 rfl (aa) (aa),?_⟩
  rintro x hx
  conv=>whnf
  refine ah ?_ ?_<;>(intro h1;conv=>whnf)
  ·have ha1:=ha x (by omega)
   repeat' ((first|refine nI ?_|refine aI ?_|refine tI ?_|refine fI ?_|fail);conv=>whnf)
   refine ak.call CW (c9 p q sch vars (R x)) 400 rfl (aa) (aa) ha1 ?_
   rintro u M' ⟨rfl,rfl⟩
   refine⟨Fp,JU p q sch vars (R (x+1)), .tup [],rfl,(aa),trivial,?_⟩
   conv=>whnf
   repeat' ((first|refine nI ?_|refine aI ?_|refine tI ?_|refine fI ?_|fail);conv=>whnf)
   refine⟨x+1,?_,by omega,by dsimp only;omega⟩
   exact aL.by_ KL _ 400 rfl (aa) (aa)
  ·obtain rfl:x=q.bad.length:=by omega
   exact⟨rfl,(aa)⟩
 ·rw[if_neg hk] at hch
  obtain⟨R,hR⟩:∃R:Nat->List cK,R=fun x=>rows++(qT p sch.length (w7 p q) 1::(List.range x).map fun i=>ot p sch.length (p.rules.getD i ar) ((oe p number).getD i 0)).map (aN vars):=⟨_,rfl⟩
  have hR0:R 0=rows++[aN vars (qT p sch.length (oL q.goal p.states.length) 1)]:=by rw[hR];rfl
  have hRn:∀x,R (x+1)=R x++[aN vars (ot p sch.length (p.rules.getD x ar) ((oe p number).getD (x:Int).toNat 0))]:=fun x=>by
   rw[hR,tN]
   dsimp only
   rw[List.range_succ]
   simp only[List.map_append,List.map_cons,List.map_nil,List.append_assoc,List.cons_append]
  have hRl:∀x,x<=p.rules.length->(R x).length<=102000:=fun x hx=>by
   rw[hR];simp only[List.length_append,List.length_map,List.length_cons,List.length_range];omega
  have hend:rows++(lQ p q sch.length number).map (aN vars)=R p.rules.length:=by
   rw[hR];unfold lQ;rw[if_neg hk]
  rw[hend]
  have hi:∀x,x<p.rules.length->ak Tryz.prog 172 [.ptr 200 0, .int .i64 (x:Int), .int .i64 ((oe p number).getD (x:Int).toNat 0)] (aj.ofL (c9 p q sch vars (R x)))
    (fun u M=>u= .tup []/\M=aj.ofL (mH p q sch vars (R (x+1)))):=fun x hx=>by
   rw[hRn x]
   have hc:(oe p number).getD (x:Int).toNat 0=(w5 p.rules number x:Int):=by rw[tN];exact oG hx
   have:=w6 p.rules number x
   exact Kn p q sch vars (R x) hn hv (by have:=hRl x (by omega);omega) hrl hsd hsl x hx (hg x hx).1 (hg x hx).2 _ (by rw[hc];omega)
  have hol:=CY q.goal
  have ha:=Jc p q sch vars rows hn hv (by omega) hrl (by omega) (oL q.goal p.states.length) (by have:=hol p.states.length;omega) 1 (by omega)
  rw[<-hR0] at ha
  have hO0:=yA q.goal
  have hOn:=yB q.goal
  have hcl:=jI p number
  clear hR hR0 hRn hend
  generalize hO:oL q.goal=O at*
  generalize oe p number=C at*
  clear hO
  refine ak.intro ac ag (c9 p q sch vars rows) Tryz.func96 rfl (by decide) ?_
  conv=>whnf
  refine j' hk ?_
  conv=>whnf
  refine aH.loopF ac ag (fun x:Nat=>x<=p.states.length) (fun x=>[(6, .row 230 (O x).length 1),(48, .int .i64 (x:Int))]) (fun x=>c9 p q sch vars rows++[(230, .row 3 0 an (O x))]) (fun x=>p.states.length-x) 0 (Nat.zero_le _) ?_;conv=>whnf
  refine⟨by rw[hO0];exact aL.by_ (dh++[(230, .nil 1)]) _ 400 rfl (aa) (aa),?_⟩
  rintro x hx
  conv=>whnf
  refine ah ?_ ?_<;>(intro h1;conv=>whnf)
  ·have hO1:=hOn x
   have hl1:=hol x
   repeat' ((first|refine nI ?_|refine aI ?_|refine tI ?_|refine fI ?_|fail);conv=>whnf)
   refine dC (bV q.goal (x:Int) (by omega)) (fun _=>?_) (fun _=>?_)<;>(conv=>whnf)
   ·rename_i hm
    rw[if_pos hm,List.append_nil] at hO1
    repeat' ((first|refine nI ?_|refine aI ?_|refine tI ?_|refine fI ?_|fail);conv=>whnf)
    refine⟨x+1,?_,by omega,by dsimp only;omega⟩
    dsimp only
    rw[hO1]
    exact aL.by_ (dh++[(230, .old 230)]) _ 400 rfl (aa) (aa)
   ·rename_i hm
    rw[if_neg hm] at hO1
    repeat' ((first|refine nI ?_|refine aI ?_|refine tI ?_|refine fI ?_|fail);conv=>whnf)
    refine bD [(x:Int)] rfl lI ?_
    conv=>whnf
    repeat' ((first|refine nI ?_|refine aI ?_|refine tI ?_|refine fI ?_|fail);conv=>whnf)
    refine⟨x+1,?_,by omega,by dsimp only;omega⟩
    dsimp only
    rw[hO1]
    exact aL.by_ (dh++[(230, .old 65)]) _ 400 rfl (aa) (aa)
  ·obtain rfl:x=p.states.length:=by omega
   repeat' ((first|refine nI ?_|refine aI ?_|refine tI ?_|refine fI ?_|fail);conv=>whnf)
   refine ak.hand 230 rfl ?_
   conv=>whnf
   refine ak.call dh (c9 p q sch vars rows) 400 rfl (aa) (aa) ha ?_
   rintro u M' ⟨rfl,rfl⟩
   refine⟨tv,mH p q sch vars (R 0), .tup [],rfl,(aa),trivial,?_⟩
   conv=>whnf
   repeat' ((first|refine nI ?_|refine aI ?_|refine tI ?_|refine fI ?_|fail);conv=>whnf)
   (refine oP (hch) ?_;conv=>whnf)
   refine aH.loopF ac ag (fun x:Nat=>x<=p.rules.length) (fun x=>[(6, .top),(68, .top),(77, .int .i64 (x:Int))]) (fun x=>mH p q sch vars (R x)) (fun x=>p.rules.length-x) 0 (Nat.zero_le _) ?_;conv=>whnf
   refine⟨aL.by_ tv _ 400 rfl (aa) (aa),?_⟩
   rintro x hx
   conv=>whnf
   refine ah ?_ ?_<;>(intro h1;conv=>whnf)
   ·have hi1:=hi x (by omega)
    repeat' ((first|refine nI ?_|refine aI ?_|refine tI ?_|refine fI ?_|fail);conv=>whnf)
    refine ak.call CW (c9 p q sch vars (R x)) 400 rfl (aa) (aa) hi1 ?_
    rintro u M' ⟨rfl,rfl⟩
    refine⟨Fp,JU p q sch vars (R (x+1)), .tup [],rfl,(aa),trivial,?_⟩
    conv=>whnf
    repeat' ((first|refine nI ?_|refine aI ?_|refine tI ?_|refine fI ?_|fail);conv=>whnf)
    refine⟨x+1,?_,by omega,by dsimp only;omega⟩
    exact aL.by_ KL _ 400 rfl (aa) (aa)
   ·obtain rfl:x=p.rules.length:=by omega
    exact⟨rfl,(aa)⟩
def K3 (p:au) (q:aV) (sch:List Int):Nat->List (Nat×cn)
 |0=>[(12, .box 76 [.pd (ez p q), .sl 0 an sch, .int .i64 0, .val (.map none), .val (.map none), .val (.map none), .val (.map none), .val (.map none), .val (.map none), .val (.map none), .nilsl])]
 |1=>[(12, .box 76 [.pd (ez p q), .sl 0 an sch, .int .i64 0, .mp 210, .val (.map none), .val (.map none), .val (.map none), .val (.map none), .val (.map none), .val (.map none), .nilsl]),(210, .map gh (Value.int .i64) (fun _=>none))]
 |2=>[(12, .box 76 [.pd (ez p q), .sl 0 an sch, .int .i64 0, .mp 210, .mp 211, .val (.map none), .val (.map none), .val (.map none), .val (.map none), .val (.map none), .nilsl]),(210, .map gh (Value.int .i64) (fun _=>none)),(211, .map gh (Value.int .i64) (fun _=>none))]
 |3=>[(12, .box 76 [.pd (ez p q), .sl 0 an sch, .int .i64 0, .mp 210, .mp 211, .mp 212, .val (.map none), .val (.map none), .val (.map none), .val (.map none), .nilsl]),(210, .map gh (Value.int .i64) (fun _=>none)),(211, .map gh (Value.int .i64) (fun _=>none)),(212, .map gh (Value.int .i64) (fun _=>none))]
 |4=>[(12, .box 76 [.pd (ez p q), .sl 0 an sch, .int .i64 0, .mp 210, .mp 211, .mp 212, .mp 213, .val (.map none), .val (.map none), .val (.map none), .nilsl]),(210, .map gh (Value.int .i64) (fun _=>none)),(211, .map gh (Value.int .i64) (fun _=>none)),(212, .map gh (Value.int .i64) (fun _=>none)),(213, .map gh (Value.int .i64) (fun _=>none))]
 |5=>[(12, .box 76 [.pd (ez p q), .sl 0 an sch, .int .i64 0, .mp 210, .mp 211, .mp 212, .mp 213, .mp 214, .val (.map none), .val (.map none), .nilsl]),(210, .map gh (Value.int .i64) (fun _=>none)),(211, .map gh (Value.int .i64) (fun _=>none)),(212, .map gh (Value.int .i64) (fun _=>none)),(213, .map gh (Value.int .i64) (fun _=>none)),(214, .map gh (Value.int .i64) (fun _=>none))]
 |6=>[(12, .box 76 [.pd (ez p q), .sl 0 an sch, .int .i64 0, .mp 210, .mp 211, .mp 212, .mp 213, .mp 214, .mp 215, .val (.map none), .nilsl]),(210, .map gh (Value.int .i64) (fun _=>none)),(211, .map gh (Value.int .i64) (fun _=>none)),(212, .map gh (Value.int .i64) (fun _=>none)),(213, .map gh (Value.int .i64) (fun _=>none)),(214, .map gh (Value.int .i64) (fun _=>none)),(215, .map gh (Value.int .i64) (fun _=>none))]
 |7=>[(12, .box 76 [.pd (ez p q), .sl 0 an sch, .int .i64 0, .mp 210, .mp 211, .mp 212, .mp 213, .mp 214, .mp 215, .mp 216, .nilsl]),(210, .map gh (Value.int .i64) (fun _=>none)),(211, .map gh (Value.int .i64) (fun _=>none)),(212, .map gh (Value.int .i64) (fun _=>none)),(213, .map gh (Value.int .i64) (fun _=>none)),(214, .map gh (Value.int .i64) (fun _=>none)),(215, .map gh (Value.int .i64) (fun _=>none)),(216, .map gh (Value.int .i64) (fun _=>none))]
 |_=>[]
noncomputable abbrev Gd (p:au) (q:aV) (sch:List Int) (vars:List Vb) (n:Nat):List (Nat×cn):=
 [(12, .box 76 [.pd (ez p q), .sl 0 an sch, .int .i64 n, .mp 210, .mp 211, .mp 212, .mp 213, .mp 214, .mp 215, .mp 216, .nilsl]),(210, .map gh (Value.int .i64) (kG vars 0 n)),(211, .map gh (Value.int .i64) (kG vars 1 n)),(212, .map gh (Value.int .i64) (kG vars 2 n)),(213, .map gh (Value.int .i64) (kG vars 3 n)),(214, .map gh (Value.int .i64) (kG vars 4 n)),(215, .map gh (Value.int .i64) (kG vars 5 n)),(216, .map gh (Value.int .i64) (kG vars 6 n))]
theorem HA {vars:List Vb} {n:Nat} {k:Int} (h:(vars.getD n cm).kind≠k):kG vars k (n+1)=kG vars k n:=by
 rw[kG,if_neg h]
theorem HB {vars:List Vb} {n:Nat} {k:Int} (h:(vars.getD n cm).kind=k):kG vars k (n+1)=sv (kG vars k n) ((vars.getD n cm).seg,(vars.getD n cm).idx) (n:Int):=by
 rw[kG,if_pos h]
theorem Jd (p:au) (q:aV) (sch:List Int) (hq:aZ p q=0) (hs:cM (aA p.rules).length sch) (hk:∀n,n<(ao p q sch).length->0<=((ao p q sch).getD n cm).kind/\((ao p q sch).getD n cm).kind<7):
  ak Tryz.prog 21 [.pd (ez p q), .sl 0 an sch] (aj.ofL [])
   (fun u M=>u= .ptr 200 0/\M=aj.ofL (c9 p q sch (ao p q sch) [])):=by
 have hvl:=dM hq hs
 have hvf:=qd p q hq sch hs
 have hsl:=cH hs
 generalize ao p q sch=vars at*
 refine ak.renorm 400 (R:=fun u M=>u= .ptr 12 0/\cU [(200, .old 12),(201, .nil 2),(210, .old 210),(211, .old 211),(212, .old 212),(213, .old 213),(214, .old 214),(215, .old 215),(216, .old 216)] 400 M (c9 p q sch vars [])) ?_ ?_
 case refine_2=>
  rintro u M ⟨rfl,hM⟩
  exact⟨[(200, .old 12),(201, .nil 2),(210, .old 210),(211, .old 211),(212, .old 212),(213, .old 213),(214, .old 214),(215, .old 215),(216, .old 216)],_, .ptr 200 0,rfl,hM,(aa),rfl,rfl⟩
 refine ak.intro ac ag [] Tryz.func21 rfl (by decide) ?_
 conv=>whnf
 refine wi ?_
 conv=>whnf
 refine aH.loopF ac ag (fun i:Nat=>i<=7) (fun i=>[(13, .int .i64 (i:Int))]) (fun i=>K3 p q sch i) (fun i=>7-i) 0 (Nat.zero_le _) ?_;conv=>whnf
 refine⟨aL.by_ [(12, .old 12)] _ 400 rfl (aa) (aa),?_⟩
 rintro i hi
 obtain rfl|rfl|rfl|rfl|rfl|rfl|rfl|rfl:i=0\/i=1\/i=2\/i=3\/i=4\/i=5\/i=6\/i=7:=by omega
 ·conv=>whnf
  refine tI ?_
  conv=>whnf
  refine wr gh (Value.int .i64) ?_
  conv=>whnf
  repeat' ((first|refine nI ?_|refine aI ?_|refine tI ?_|refine fI ?_|fail);conv=>whnf)
  refine⟨1,?_,by omega,by dsimp only;omega⟩
  exact aL.by_ [(12, .old 12),(210, .old 18)] _ 400 rfl (aa) (aa)
 ·conv=>whnf
  refine tI ?_
  conv=>whnf
  refine wr gh (Value.int .i64) ?_
  conv=>whnf
  repeat' ((first|refine nI ?_|refine aI ?_|refine tI ?_|refine fI ?_|fail);conv=>whnf)
  refine⟨2,?_,by omega,by dsimp only;omega⟩
  exact aL.by_ [(12, .old 12),(210, .old 210),(211, .old 18)] _ 400 rfl (aa) (aa)
 ·conv=>whnf
  refine tI ?_
  conv=>whnf
  refine wr gh (Value.int .i64) ?_
  conv=>whnf
  repeat' ((first|refine nI ?_|refine aI ?_|refine tI ?_|refine fI ?_|fail);conv=>whnf)
  refine⟨3,?_,by omega,by dsimp only;omega⟩
  exact aL.by_ [(12, .old 12),(210, .old 210),(211, .old 211),(212, .old 18)] _ 400 rfl (aa) (aa)
 ·conv=>whnf
  refine tI ?_
  conv=>whnf
  refine wr gh (Value.int .i64) ?_
  conv=>whnf
  repeat' ((first|refine nI ?_|refine aI ?_|refine tI ?_|refine fI ?_|fail);conv=>whnf)
  refine⟨4,?_,by omega,by dsimp only;omega⟩
  exact aL.by_ [(12, .old 12),(210, .old 210),(211, .old 211),(212, .old 212),(213, .old 18)] _ 400 rfl (aa) (aa)
 ·conv=>whnf
  refine tI ?_
  conv=>whnf
  refine wr gh (Value.int .i64) ?_
  conv=>whnf
  repeat' ((first|refine nI ?_|refine aI ?_|refine tI ?_|refine fI ?_|fail);conv=>whnf)
  refine⟨5,?_,by omega,by dsimp only;omega⟩
  exact aL.by_ [(12, .old 12),(210, .old 210),(211, .old 211),(212, .old 212),(213, .old 213),(214, .old 18)] _ 400 rfl (aa) (aa)
 ·conv=>whnf
  refine tI ?_
  conv=>whnf
  refine wr gh (Value.int .i64) ?_
  conv=>whnf
  repeat' ((first|refine nI ?_|refine aI ?_|refine tI ?_|refine fI ?_|fail);conv=>whnf)
  refine⟨6,?_,by omega,by dsimp only;omega⟩
  exact aL.by_ [(12, .old 12),(210, .old 210),(211, .old 211),(212, .old 212),(213, .old 213),(214, .old 214),(215, .old 18)] _ 400 rfl (aa) (aa)
 ·conv=>whnf
  refine tI ?_
  conv=>whnf
  refine wr gh (Value.int .i64) ?_
  conv=>whnf
  repeat' ((first|refine nI ?_|refine aI ?_|refine tI ?_|refine fI ?_|fail);conv=>whnf)
  refine⟨7,?_,by omega,by dsimp only;omega⟩
  exact aL.by_ [(12, .old 12),(210, .old 210),(211, .old 211),(212, .old 212),(213, .old 213),(214, .old 214),(215, .old 215),(216, .old 18)] _ 400 rfl (aa) (aa)
 ·conv=>whnf
  refine fI ?_
  conv=>whnf
  (refine oP (hvf) ?_;conv=>whnf)
  refine aH.loopF ac ag (fun n:Nat=>n<=vars.length) (fun n=>[(27, .int .i64 (n:Int))]) (fun n=>Gd p q sch vars n) (fun n=>vars.length-n) 0 (Nat.zero_le _) ?_;conv=>whnf
  refine⟨aL.by_ [(12, .old 12),(210, .old 210),(211, .old 211),(212, .old 212),(213, .old 213),(214, .old 214),(215, .old 215),(216, .old 216)] _ 400 rfl (aa) (aa),?_⟩
  rintro n hn
  conv=>whnf
  refine ah ?_ ?_<;>(intro h1;conv=>whnf)
  ·have hkn:=hk n (by omega)
   repeat' ((first|refine nI ?_|refine aI ?_|refine tI ?_|refine fI ?_|fail);conv=>whnf)
   have hno:∀k:Int,((vars.getD n cm).kind≠k)->kG vars k (n+1)=kG vars k n:=fun k=>HA
   have hup:∀k:Int,((vars.getD n cm).kind=k)->kG vars k (n+1)=sv (kG vars k n) ((vars.getD n cm).seg,(vars.getD n cm).idx) (n:Int):=fun k=>HB
   rw[tN]
   generalize vars.getD n cm=v at*
   obtain⟨kd,sg,ix⟩:=v
   dsimp only at hkn hno hup
   obtain rfl|rfl|rfl|rfl|rfl|rfl|rfl:kd=0\/kd=1\/kd=2\/kd=3\/kd=4\/kd=5\/kd=6:=by omega
   ·apply cA
    case k=>
     intro o1 o2 o3 o4 o5 o6
     refine kL [0,1,3,4,5,7,9,11,12] (by decide+kernel) ?_
     conv=>whnf
     repeat' first
      |exact True.intro
      |(refine And.intro ?_ ?_<;>conv=>whnf)
      |(refine bI (by clear o1 o2 o3 o4 o5 o6;dsimp only;omega) ?_;conv=>whnf)
      |(refine ws iX (sg,ix) (n:Int) rfl rfl ?_;conv=>whnf)
      |with_reducible exact o1
      |with_reducible exact o2
      |with_reducible exact o3
      |with_reducible exact o4
      |with_reducible exact o5
      |with_reducible exact o6
      |fail
    all_goals try first
     |exact True.intro
     |exact True
    all_goals
     repeat' ((first|refine nI ?_|refine aI ?_|refine tI ?_|refine fI ?_|fail);conv=>whnf)
     refine⟨n+1,?_,by omega,by dsimp only;omega⟩
     dsimp only
     unfold Gd
     rw[hno 1 (by decide),hno 2 (by decide),hno 3 (by decide),hno 4 (by decide),hno 5 (by decide),hno 6 (by decide),hup 0 rfl]
     exact aL.by_ [(12, .old 12),(210, .old 210),(211, .old 211),(212, .old 212),(213, .old 213),(214, .old 214),(215, .old 215),(216, .old 216)] _ 400 rfl (aa) (aa)
   ·apply cA
    case k=>
     intro o1 o2 o3 o4 o5 o6
     refine kL [0,1,3,4,5,7,9,11,12] (by decide+kernel) ?_
     conv=>whnf
     repeat' first
      |exact True.intro
      |(refine And.intro ?_ ?_<;>conv=>whnf)
      |(refine bI (by clear o1 o2 o3 o4 o5 o6;dsimp only;omega) ?_;conv=>whnf)
      |(refine ws iX (sg,ix) (n:Int) rfl rfl ?_;conv=>whnf)
      |with_reducible exact o1
      |with_reducible exact o2
      |with_reducible exact o3
      |with_reducible exact o4
      |with_reducible exact o5
      |with_reducible exact o6
      |fail
    all_goals try first
     |exact True.intro
     |exact True
    all_goals
     repeat' ((first|refine nI ?_|refine aI ?_|refine tI ?_|refine fI ?_|fail);conv=>whnf)
     refine⟨n+1,?_,by omega,by dsimp only;omega⟩
     dsimp only
     unfold Gd
     rw[hno 0 (by decide),hno 2 (by decide),hno 3 (by decide),hno 4 (by decide),hno 5 (by decide),hno 6 (by decide),hup 1 rfl]
     exact aL.by_ [(12, .old 12),(210, .old 210),(211, .old 211),(212, .old 212),(213, .old 213),(214, .old 214),(215, .old 215),(216, .old 216)] _ 400 rfl (aa) (aa)
   ·apply cA
    case k=>
     intro o1 o2 o3 o4 o5 o6
     refine kL [0,1,3,4,5,7,9,11,12] (by decide+kernel) ?_
     conv=>whnf
     repeat' first
      |exact True.intro
      |(refine And.intro ?_ ?_<;>conv=>whnf)
      |(refine bI (by clear o1 o2 o3 o4 o5 o6;dsimp only;omega) ?_;conv=>whnf)
      |(refine ws iX (sg,ix) (n:Int) rfl rfl ?_;conv=>whnf)
      |with_reducible exact o1
      |with_reducible exact o2
      |with_reducible exact o3
      |with_reducible exact o4
      |with_reducible exact o5
      |with_reducible exact o6
      |fail
    all_goals try first
     |exact True.intro
     |exact True
    all_goals
     repeat' ((first|refine nI ?_|refine aI ?_|refine tI ?_|refine fI ?_|fail);conv=>whnf)
     refine⟨n+1,?_,by omega,by dsimp only;omega⟩
     dsimp only
     unfold Gd
     rw[hno 0 (by decide),hno 1 (by decide),hno 3 (by decide),hno 4 (by decide),hno 5 (by decide),hno 6 (by decide),hup 2 rfl]
     exact aL.by_ [(12, .old 12),(210, .old 210),(211, .old 211),(212, .old 212),(213, .old 213),(214, .old 214),(215, .old 215),(216, .old 216)] _ 400 rfl (aa) (aa)
   ·apply cA
    case k=>
     intro o1 o2 o3 o4 o5 o6
     refine kL [0,1,3,4,5,7,9,11,12] (by decide+kernel) ?_
     conv=>whnf
     repeat' first
      |exact True.intro
      |(refine And.intro ?_ ?_<;>conv=>whnf)
      |(refine bI (by clear o1 o2 o3 o4 o5 o6;dsimp only;omega) ?_;conv=>whnf)
      |(refine ws iX (sg,ix) (n:Int) rfl rfl ?_;conv=>whnf)
      |with_reducible exact o1
      |with_reducible exact o2
      |with_reducible exact o3
      |with_reducible exact o4
      |with_reducible exact o5
      |with_reducible exact o6
      |fail
    all_goals try first
     |exact True.intro
     |exact True
    all_goals
     repeat' ((first|refine nI ?_|refine aI ?_|refine tI ?_|refine fI ?_|fail);conv=>whnf)
     refine⟨n+1,?_,by omega,by dsimp only;omega⟩
     dsimp only
     unfold Gd
     rw[hno 0 (by decide),hno 1 (by decide),hno 2 (by decide),hno 4 (by decide),hno 5 (by decide),hno 6 (by decide),hup 3 rfl]
     exact aL.by_ [(12, .old 12),(210, .old 210),(211, .old 211),(212, .old 212),(213, .old 213),(214, .old 214),(215, .old 215),(216, .old 216)] _ 400 rfl (aa) (aa)
   ·apply cA
    case k=>
     intro o1 o2 o3 o4 o5 o6
     refine kL [0,1,3,4,5,7,9,11,12] (by decide+kernel) ?_
     conv=>whnf
     repeat' first
      |exact True.intro
      |(refine And.intro ?_ ?_<;>conv=>whnf)
      |(refine bI (by clear o1 o2 o3 o4 o5 o6;dsimp only;omega) ?_;conv=>whnf)
      |(refine ws iX (sg,ix) (n:Int) rfl rfl ?_;conv=>whnf)
      |with_reducible exact o1
      |with_reducible exact o2
      |with_reducible exact o3
      |with_reducible exact o4
      |with_reducible exact o5
      |with_reducible exact o6
      |fail
    all_goals try first
     |exact True.intro
     |exact True
    all_goals
     repeat' ((first|refine nI ?_|refine aI ?_|refine tI ?_|refine fI ?_|fail);conv=>whnf)
     refine⟨n+1,?_,by omega,by dsimp only;omega⟩
     dsimp only
     unfold Gd
     rw[hno 0 (by decide),hno 1 (by decide),hno 2 (by decide),hno 3 (by decide),hno 5 (by decide),hno 6 (by decide),hup 4 rfl]
     exact aL.by_ [(12, .old 12),(210, .old 210),(211, .old 211),(212, .old 212),(213, .old 213),(214, .old 214),(215, .old 215),(216, .old 216)] _ 400 rfl (aa) (aa)
   ·apply cA
    case k=>
     intro o1 o2 o3 o4 o5 o6
     refine kL [0,1,3,4,5,7,9,11,12] (by decide+kernel) ?_
     conv=>whnf
     repeat' first
      |exact True.intro
      |(refine And.intro ?_ ?_<;>conv=>whnf)
      |(refine bI (by clear o1 o2 o3 o4 o5 o6;dsimp only;omega) ?_;conv=>whnf)
      |(refine ws iX (sg,ix) (n:Int) rfl rfl ?_;conv=>whnf)
      |with_reducible exact o1
      |with_reducible exact o2
      |with_reducible exact o3
      |with_reducible exact o4
      |with_reducible exact o5
      |with_reducible exact o6
      |fail
    all_goals try first
     |exact True.intro
     |exact True
    all_goals
     repeat' ((first|refine nI ?_|refine aI ?_|refine tI ?_|refine fI ?_|fail);conv=>whnf)
     refine⟨n+1,?_,by omega,by dsimp only;omega⟩
     dsimp only
     unfold Gd
     rw[hno 0 (by decide),hno 1 (by decide),hno 2 (by decide),hno 3 (by decide),hno 4 (by decide),hno 6 (by decide),hup 5 rfl]
     exact aL.by_ [(12, .old 12),(210, .old 210),(211, .old 211),(212, .old 212),(213, .old 213),(214, .old 214),(215, .old 215),(216, .old 216)] _ 400 rfl (aa) (aa)
   ·apply cA
    case k=>
     intro o1 o2 o3 o4 o5 o6
     refine kL [0,1,3,4,5,7,9,11,12] (by decide+kernel) ?_
     conv=>whnf
     repeat' first
      |exact True.intro
      |(refine And.intro ?_ ?_<;>conv=>whnf)
      |(refine bI (by clear o1 o2 o3 o4 o5 o6;dsimp only;omega) ?_;conv=>whnf)
      |(refine ws iX (sg,ix) (n:Int) rfl rfl ?_;conv=>whnf)
      |with_reducible exact o1
      |with_reducible exact o2
      |with_reducible exact o3
      |with_reducible exact o4
      |with_reducible exact o5
      |with_reducible exact o6
      |fail
    all_goals try first
     |exact True.intro
     |exact True
    all_goals
     repeat' ((first|refine nI ?_|refine aI ?_|refine tI ?_|refine fI ?_|fail);conv=>whnf)
     refine⟨n+1,?_,by omega,by dsimp only;omega⟩
     dsimp only
     unfold Gd
     rw[hno 0 (by decide),hno 1 (by decide),hno 2 (by decide),hno 3 (by decide),hno 4 (by decide),hno 5 (by decide),hup 6 rfl]
     exact aL.by_ [(12, .old 12),(210, .old 210),(211, .old 211),(212, .old 212),(213, .old 213),(214, .old 214),(215, .old 215),(216, .old 216)] _ 400 rfl (aa) (aa)
  ·obtain rfl:n=vars.length:=by omega
   exact⟨rfl,(aa)⟩
theorem rZ {p:au} {q:aV} {sch:List Int} {v:Vb} (h:v∈ao p q sch):0<=v.kind/\v.kind<7:=by
 unfold ao at h
 rcases List.mem_append.1 h with h|h
 ·rcases List.mem_append.1 h with h|h
  ·simp only[List.mem_cons,List.not_mem_nil,or_false] at h
   rcases h with rfl|rfl|rfl<;>exact⟨by decide,by decide⟩
  ·unfold qD at h
   rcases List.mem_append.1 h with h|h
   ·obtain⟨x,_,rfl⟩:=List.mem_map.1 h
    exact⟨by dsimp only;omega,by dsimp only;omega⟩
   ·split at h
    ·obtain⟨x,_,rfl⟩:=List.mem_map.1 h
     exact⟨by dsimp only;omega,by dsimp only;omega⟩
    ·cases h
 ·obtain⟨j,_,h⟩:=List.mem_flatMap.1 h
  obtain⟨r,_,h⟩:=dK h
  have:=(eX h).1
  omega
theorem mM {p:au} (hv:aB p=0) (i:Nat) (hi:i<p.rules.length):(p.rules.getD i ar).send.length<=60:=by
 have h:=dZ hv
 have h1:¬my (p.rules.getD i ar):=fun hb=>h (by unfold fD;exact .inr (.inr (.inr (.inr (.inr (.inr (.inr (.inr (.inl ⟨i,hi,hb⟩)))))))))
 unfold my at h1
 omega
def dQ:List g7:=[⟨-1,1,0,0⟩,⟨0,1,-1,0⟩,⟨0,1,0,-1⟩]
def kM (vars:List Vb) (ls:List g7):List cK:=ls.map fun l=>aN vars (lP l)
theorem kN (vars:List Vb) (ls:List g7) (l:g7):kM vars (ls++[l])=kM vars ls++[aN vars (lP l)]:=by unfold kM;rw[List.map_append];rfl
theorem nK (ls:List g7) (x:Nat) (hx:x<ls.length):ls.take (x+1)=ls.take x++[ls.getD (x:Int).toNat dc]:=by
 rw[tN,List.take_succ_eq_append_getElem hx,ay dc hx]
def xo (p:au) (sch:List Int) (vars:List Vb) (n:Nat):List cK:=((List.range n).flatMap (jX p sch)).map (aN vars)
theorem vG (p:au) (sch:List Int) (vars:List Vb) (n:Nat):xo p sch vars (n+1)=xo p sch vars n++(jX p sch n).map (aN vars):=by
 unfold xo
 rw[List.range_succ,List.flatMap_append,List.map_append]
 simp
theorem CZ (p:au) (q:aV) (hq:aZ p q=0) (sch:List Int) (hs:cM (aA p.rules).length sch) (number:Int) (hb:number<=1000000):ab Tryz.prog 39 [.pd (ez p q), .sl 0 an sch, .int .i64 number]
  (fun u=>u= .agg [.int .i64 (ao p q sch).length, .sl bz bE (dq p q sch number)]):=by
 have vq:=aQ hq
 have hV:=vq.vld
 have w:=aK hV
 have wl:=w.len
 have hT:=w.thr
 have hsl:=cH hs
 have hvl:=dM hq hs
 have hnd:=dL hq sch
 have hbeg:=Jd p q sch hq hs fun n hn=>rZ (aP (l:=ao p q sch) cm hn)
 have hpar:=fun rows (hr:rows.length<=1000000) l (hl:c6 l)=>Kg p q sch (ao p q sch) rows hnd (by omega) hr l hl
 have hsta:=fun rows (hr:rows.length<=1000000) kind hk l hl=>Kj p q sch (ao p q sch) rows hnd (by omega) hr (by omega) kind hk l hl
 have hseg:=fun rows (hr:rows.length<=100000) j hj=>Km p q sch (ao p q sch) rows hnd (by omega) hr (by omega) (by omega) (fun i hi=>by have:=mM hV i hi;omega) (by omega) (fun g hg=>(ti hV hg).2) hs j hj
 have hvio:=fun rows (hr:rows.length<=100000) (m:Nat) (hm:m<=1000000)=>Ko p q sch (ao p q sch) rows hnd (by omega) hr (by omega) (by omega) (fun i hi=>by have:=mM hV i hi;omega) (by omega) hV
  (fun k=>⟨by have:=(vq.bad k).1;omega,fun i hi=>by
   have c:=k0 vq k hi
   have:=bq c.1
   omega⟩)
  (by
   rcases vq.kind with k|k
   ·have:=vq.shp;omega
   ·have:=bq (vq.goal k).1;omega)
  (fun i hi=>⟨fun g hg=>(jJ (w.rul i hi) hg).2,by have:=dl hV i hi;omega⟩) m hm
 have hbl:∀l∈fi p,c6 l:=Ch hV
 have hblit:∀x:Nat,x<3->c6 (dQ.getD (x:Int).toNat dc):=fun x hx=>hbl _ (by
  unfold fi
  rw[tN]
  exact List.mem_append_left _ (List.mem_append_left _ (aP (l:=dQ) dc hx)))
 have hbres:∀x:Nat,x<p.resilience.length->c6 (p.resilience.getD (x:Int).toNat dc):=fun x hx=>hbl _ (by
  unfold fi
  rw[tN]
  exact List.mem_append_right _ (aP (l:=p.resilience) dc hx))
 have fB:∀a b c d:Int,-100<=a/\a<=100->-100<=b/\b<=100->-100<=c/\c<=100->-100<=d/\d<=100->c6 ⟨a,b,c,d⟩:=fun a b c d h1 h2 h3 h4=>⟨h1,h2,h3,h4⟩
 have hsys:dq p q sch number=(kM (ao p q sch) (fi p)++(jh p).map (aN (ao p q sch))++xo p sch (ao p q sch) (sch.length+1))++(if 0<=number then(lQ p q sch.length number.toNat).map (aN (ao p q sch)) else[]):=by
  unfold dq ip kM xo
  rw[List.map_append,List.map_append,List.map_append,List.map_map]
  congr 1
  split<;>rfl
 have hsel:∀n,n<=sch.length+1->(xo p sch (ao p q sch) n).length<=20*n:=by
  intro n
  induction n with
  |zero=>intro _;simp[xo]
  |succ n ih=>
   intro hn
   rw[vG,List.length_append,List.length_map]
   have a:=ih (by omega)
   have:(jX p sch n).length<=20:=by
    unfold jX
    rw[List.length_append,List.length_append]
    split<;>split<;>simp<;>omega
   omega
 have hpal:(kM (ao p q sch) (fi p)).length<=9:=by unfold kM fi;rw[List.length_map,List.length_append,List.length_append];split<;>simp<;>omega
 have hstl:((jh p).map (aN (ao p q sch))).length<=4:=by unfold jh;rw[List.length_map,List.length_append];split<;>simp
 have hpe:fi p=dQ++(if p.fault=0 then[⟨0,0,-1,0⟩,⟨0,0,0,-1⟩] else[])++p.resilience:=rfl
 rw[hsys]
 clear hsys hbl
 generalize hvv:ao p q sch=vars at*
 refine ab.intro ac ag Tryz.func39 rfl (by decide) ?_;(conv=>whnf)
 refine ak.news 400 dh (c9 p q sch vars []) (.ptr 200 0) hbeg (aa) rfl (by rintro u M' ⟨rfl,rfl⟩;exact⟨(aa),(aa)⟩) ?_
 conv=>whnf
 refine bw dc bM dQ rfl ?_
 conv=>whnf
 refine aH.loopF ac ag (fun x:Nat=>x<=3) (fun x=>[(21, .int .i64 (x:Int))]) (fun x=>[(6, .box 93 [.int .i64 0, .nilsl]),(19, .row 130 dc bM dQ)]++c9 p q sch vars (kM vars (dQ.take x))) (fun x=>3-x) 0 (Nat.zero_le _) ?_;conv=>whnf
 refine⟨aL.by_ ((6, .old 6)::(19, .old 19)::dh) _ 400 rfl (aa) (aa),?_⟩
 rintro x hx
 conv=>whnf
 refine ah ?_ ?_<;>(intro h1;conv=>whnf)
 ·have hx3:x<3:=by have:(dQ.length:Int)=3:=rfl;omega
  have hc:=hpar (kM vars (dQ.take x)) (by unfold kM;rw[List.length_map,List.length_take];omega) _ (hblit x hx3)
  rw[<-kN,<-nK dQ x hx3] at hc
  repeat' ((first|refine nI ?_|refine aI ?_|refine tI ?_|refine fI ?_|fail);conv=>whnf)
  refine ak.call dh (c9 p q sch vars (kM vars (dQ.take x))) 400 rfl (aa) (aa) hc ?_
  rintro u M' ⟨rfl,rfl⟩
  refine⟨tv,mH p q sch vars (kM vars (dQ.take (x+1))), .tup [],rfl,(aa),trivial,?_⟩
  conv=>whnf
  repeat' ((first|refine nI ?_|refine aI ?_|refine tI ?_|refine fI ?_|fail);conv=>whnf)
  refine⟨x+1,?_,by omega,by dsimp only;omega⟩
  exact aL.by_ [(6, .old 6),(19, .old 19),(200, .old 200),(201, .old 202),(210, .old 210),(211, .old 211),(212, .old 212),(213, .old 213),(214, .old 214),(215, .old 215),(216, .old 216)] _ 400 rfl (aa) (aa)
 ·obtain rfl:x=3:=by have:(dQ.length:Int)=3:=rfl;omega
  rw[show dQ.take 3=dQ from rfl]
  obtain⟨LL,hLL⟩:∃LL:List g7,LL=dQ++(if p.fault=0 then[⟨0,0,-1,0⟩,⟨0,0,0,-1⟩] else[]):=⟨_,rfl⟩
  have hL1:p.fault=0->LL=dQ++([⟨0,0,-1,0⟩]++[⟨0,0,0,-1⟩]):=fun h=>by rw[hLL,if_pos h];rfl
  have hL2:¬p.fault=0->LL=dQ:=fun h=>by rw[hLL,if_neg h,List.append_nil]
  have hLl:LL.length<=5:=by rw[hLL];unfold dQ;split<;>simp
  rw[<-hLL] at hpe
  clear hLL
  apply once (A:=aH Tryz.prog _ (.loop _) ([.pd (ez p q), .sl 0 an sch, .int .i64 number, .top, .top, .top, .ptr 6 0, .ptr 200 0]++List.replicate 37 .top++[.sl dc bM p.resilience, .int .i64 (p.resilience.length:Int), .int .i64 0]++List.replicate 39 .top) (aj.ofL ((6, .box 93 [.int .i64 0, .nilsl])::c9 p q sch vars (kM vars LL))) _)
  case k=>
   intro hs0
   refine ah (fun hf=>?_) (fun hf=>?_)
   rotate_left
   ·conv=>whnf
    exact aH.sub (by rw[hL2 hf];exact aL.by_ [(6, .old 6),(200, .old 200),(201, .old 201),(210, .old 210),(211, .old 211),(212, .old 212),(213, .old 213),(214, .old 214),(215, .old 215),(216, .old 216)] _ 400 rfl (aa) (aa)) hs0
   ·have c1:=hpar (kM vars dQ) (by unfold kM dQ;simp) ⟨0,0,-1,0⟩ (fB _ _ _ _ (by omega) (by omega) (by omega) (by omega))
    rw[<-kN] at c1
    have c2:=hpar (kM vars (dQ++[⟨0,0,-1,0⟩])) (by unfold kM dQ;simp) ⟨0,0,0,-1⟩ (fB _ _ _ _ (by omega) (by omega) (by omega) (by omega))
    rw[<-kN,List.append_assoc] at c2
    simp only[lh,lg,cB,List.set]
    refine gt ?_
    refine oh rfl ?_
    refine fj ?_
    refine dN ?_
    refine be (.ptr 200 0) rfl (fun K' h=>?_) rfl ?_
    ·conv=>whnf
     exact h
    refine be (.agg (bM ⟨0,0,-1,0⟩)) rfl (fun K' h=>?_) rfl ?_
    ·conv=>whnf
     exact h
    refine f6 rfl rfl ?_
    refine ak.call dh (c9 p q sch vars (kM vars dQ)) 400 rfl (aa) (aa) c1 ?_
    rintro u M' ⟨rfl,rfl⟩
    refine⟨tv,mH p q sch vars (kM vars (dQ++[⟨0,0,-1,0⟩])), .tup [],rfl,(aa),trivial,?_⟩
    simp only[lh,lg,cB,List.set]
    refine gt ?_
    refine dN ?_
    refine be (.ptr 200 0) rfl (fun K' h=>?_) rfl ?_
    ·conv=>whnf
     exact h
    refine be (.agg (bM ⟨0,0,0,-1⟩)) rfl (fun K' h=>?_) rfl ?_
    ·conv=>whnf
     exact h
    refine f6 rfl rfl ?_
    refine ak.call CW (c9 p q sch vars (kM vars (dQ++[⟨0,0,-1,0⟩]))) 400 rfl (aa) (aa) c2 ?_
    rintro u M' ⟨rfl,rfl⟩
    refine⟨Fp,JU p q sch vars (kM vars (dQ++([⟨0,0,-1,0⟩]++[⟨0,0,0,-1⟩]))), .tup [],rfl,(aa),trivial,?_⟩
    simp only[lh,lg,cB,List.set]
    refine gt ?_
    conv=>whnf
    exact aH.sub (by rw[hL1 hf];exact aL.by_ [(6, .old 6),(200, .old 200),(201, .old 203),(210, .old 210),(211, .old 211),(212, .old 212),(213, .old 213),(214, .old 214),(215, .old 215),(216, .old 216)] _ 400 rfl (aa) (aa)) hs0
  case h=>
   refine aH.loopF ac ag (fun x:Nat=>x<=p.resilience.length) (fun x=>[(47, .int .i64 (x:Int))]) (fun x=>(6, .box 93 [.int .i64 0, .nilsl])::c9 p q sch vars (kM vars (LL++p.resilience.take x))) (fun x=>p.resilience.length-x) 0 (Nat.zero_le _) ?_;conv=>whnf
   refine⟨by rw[List.take_zero,List.append_nil];exact aL.by_ ((6, .old 6)::dh) _ 400 rfl (aa) (aa),?_⟩
   rintro x hx
   conv=>whnf
   refine ah ?_ ?_<;>(intro h1;conv=>whnf)
   ·have hxl:x<p.resilience.length:=by omega
    have hc:=hpar (kM vars (LL++p.resilience.take x)) (by unfold kM;simp only[List.length_map,List.length_append,List.length_take];omega) _ (hbres x hxl)
    rw[<-kN,List.append_assoc,<-nK p.resilience x hxl] at hc
    repeat' ((first|refine nI ?_|refine aI ?_|refine tI ?_|refine fI ?_|fail);conv=>whnf)
    refine ak.call dh (c9 p q sch vars (kM vars (LL++p.resilience.take x))) 400 rfl (aa) (aa) hc ?_
    rintro u M' ⟨rfl,rfl⟩
    refine⟨tv,mH p q sch vars (kM vars (LL++p.resilience.take (x+1))), .tup [],rfl,(aa),trivial,?_⟩
    conv=>whnf
    repeat' ((first|refine nI ?_|refine aI ?_|refine tI ?_|refine fI ?_|fail);conv=>whnf)
    refine⟨x+1,?_,by omega,by dsimp only;omega⟩
    exact aL.by_ [(6, .old 6),(200, .old 200),(201, .old 202),(210, .old 210),(211, .old 211),(212, .old 212),(213, .old 213),(214, .old 214),(215, .old 215),(216, .old 216)] _ 400 rfl (aa) (aa)
   ·obtain rfl:x=p.resilience.length:=by omega
    rw[List.take_length,<-hpe]
    generalize hPP:kM vars (fi p)=PA at*
    have c3:=hsta PA (by omega) 3 (by omega) ⟨0,1,0,-1⟩ (fB _ _ _ _ (by omega) (by omega) (by omega) (by omega))
    have hS1:gq p->(jh p).map (aN vars)=[aN vars (fh 3 p.states.length 1 ⟨0,1,0,-1⟩),aN vars (fh 3 p.states.length (-1) ⟨0,1,0,-1⟩)]++[aN vars (fh 4 p.states.length 1 ⟨0,0,0,1⟩),aN vars (fh 4 p.states.length (-1) ⟨0,0,0,1⟩)]:=fun h=>by unfold jh;rw[if_pos h];rfl
    have hS2:¬gq p->(jh p).map (aN vars)=[aN vars (fh 3 p.states.length 1 ⟨0,1,0,-1⟩),aN vars (fh 3 p.states.length (-1) ⟨0,1,0,-1⟩)]:=fun h=>by unfold jh;rw[if_neg h];rfl
    have c4:=hsta (PA++[aN vars (fh 3 p.states.length 1 ⟨0,1,0,-1⟩),aN vars (fh 3 p.states.length (-1) ⟨0,1,0,-1⟩)]) (by simp only[List.length_append,List.length_cons,List.length_nil];omega) 4 (by omega) ⟨0,0,0,1⟩ (fB _ _ _ _ (by omega) (by omega) (by omega) (by omega))
    rw[List.append_assoc] at c4
    generalize (jh p).map (aN vars)=SA at*
    refine ak.call dh (c9 p q sch vars PA) 400 rfl (aa) (aa) c3 ?_
    rintro u M' ⟨rfl,rfl⟩
    refine⟨tv,mH p q sch vars (PA++[aN vars (fh 3 p.states.length 1 ⟨0,1,0,-1⟩),aN vars (fh 3 p.states.length (-1) ⟨0,1,0,-1⟩)]), .tup [],rfl,(aa),trivial,?_⟩
    conv=>whnf
    apply once (A:=aH Tryz.prog _ (.loop _) ([.pd (ez p q), .sl 0 an sch, .int .i64 number, .top, .top, .top, .ptr 6 0, .ptr 200 0]++List.replicate 57 .top++[.int .i64 ((sch.length:Int)+1), .int .i64 0]++List.replicate 20 .top) (aj.ofL ((6, .box 93 [.int .i64 0, .nilsl])::c9 p q sch vars (PA++SA))) _)
    case k=>
     intro hs1
     refine dC (hZ p q) (fun _=>?_) (fun _=>?_)<;>(conv=>whnf)
     ·rename_i hw
      rw[<-hS1 hw] at c4
      refine ak.call CW (c9 p q sch vars (PA++[aN vars (fh 3 p.states.length 1 ⟨0,1,0,-1⟩),aN vars (fh 3 p.states.length (-1) ⟨0,1,0,-1⟩)])) 400 rfl (aa) (aa) c4 ?_
      rintro u M' ⟨rfl,rfl⟩
      refine⟨Fp,JU p q sch vars (PA++SA), .tup [],rfl,(aa),trivial,?_⟩
      conv=>whnf
      repeat' ((first|refine nI ?_|refine aI ?_|refine tI ?_|refine fI ?_|fail);conv=>whnf)
      exact aH.sub (aL.by_ [(6, .old 6),(200, .old 200),(201, .old 203),(210, .old 210),(211, .old 211),(212, .old 212),(213, .old 213),(214, .old 214),(215, .old 215),(216, .old 216)] _ 400 rfl (aa) (aa)) hs1
     ·rename_i hw
      repeat' ((first|refine nI ?_|refine aI ?_|refine tI ?_|refine fI ?_|fail);conv=>whnf)
      exact aH.sub (by rw[hS2 hw];exact aL.by_ [(6, .old 6),(200, .old 200),(201, .old 202),(210, .old 210),(211, .old 211),(212, .old 212),(213, .old 213),(214, .old 214),(215, .old 215),(216, .old 216)] _ 400 rfl (aa) (aa)) hs1
    case h=>
     refine aH.loopF ac ag (fun x:Nat=>x<=sch.length+1) (fun x=>[(66, .int .i64 (x:Int))]) (fun x=>(6, .box 93 [.int .i64 0, .nilsl])::c9 p q sch vars (PA++SA++xo p sch vars x)) (fun x=>sch.length+1-x) 0 (Nat.zero_le _) ?_;conv=>whnf
     refine⟨by rw[show xo p sch vars 0=[] from rfl,List.append_nil];exact aL.by_ ((6, .old 6)::dh) _ 400 rfl (aa) (aa),?_⟩
     rintro x hx
     conv=>whnf
     refine ah ?_ ?_<;>(intro h1;conv=>whnf)
     ·have hxl:x<=sch.length:=by omega
      have hc:=hseg (PA++SA++xo p sch vars x) (by have:=hsel x (by omega);simp only[List.length_append];omega) x hxl
      rw[List.append_assoc (PA++SA),<-vG] at hc
      repeat' ((first|refine nI ?_|refine aI ?_|refine tI ?_|refine fI ?_|fail);conv=>whnf)
      refine ak.call dh (c9 p q sch vars (PA++SA++xo p sch vars x)) 400 rfl (aa) (aa) hc ?_
      rintro u M' ⟨rfl,rfl⟩
      refine⟨tv,mH p q sch vars (PA++SA++xo p sch vars (x+1)), .tup [],rfl,(aa),trivial,?_⟩
      conv=>whnf
      repeat' ((first|refine nI ?_|refine aI ?_|refine tI ?_|refine fI ?_|fail);conv=>whnf)
      refine⟨x+1,?_,by omega,by dsimp only;omega⟩
      exact aL.by_ [(6, .old 6),(200, .old 200),(201, .old 202),(210, .old 210),(211, .old 211),(212, .old 212),(213, .old 213),(214, .old 214),(215, .old 215),(216, .old 216)] _ 400 rfl (aa) (aa)
     ·obtain rfl:x=sch.length+1:=by omega
      have hse:=hsel (sch.length+1) (by omega)
      refine ah ?_ ?_<;>(intro hz;conv=>whnf)
      ·rw[if_pos hz]
       have hc:=hvio (PA++SA++xo p sch vars (sch.length+1)) (by simp only[List.length_append];omega) number.toNat (by omega)
       rw[Int.toNat_of_nonneg hz] at hc
       refine ak.call dh (c9 p q sch vars (PA++SA++xo p sch vars (sch.length+1))) 400 rfl (aa) (aa) hc ?_
       rintro u M' ⟨rfl,rfl⟩
       refine⟨tv,mH p q sch vars (PA++SA++xo p sch vars (sch.length+1)++(lQ p q sch.length number.toNat).map (aN vars)), .tup [],rfl,(aa),trivial,?_⟩
       conv=>whnf
       refine kK [0,1,2,4,5,6,8] (by decide+kernel) ?_
       conv=>whnf
       repeat' first
        |exact True.intro
        |(refine And.intro ?_ ?_<;>conv=>whnf)
        |exact rfl
        |fail
      ·rw[if_neg hz,List.append_nil]
       refine kK [0,1,2,4,5,6,8] (by decide+kernel) ?_
       conv=>whnf
       repeat' first
        |exact True.intro
        |(refine And.intro ?_ ?_<;>conv=>whnf)
        |exact rfl
        |fail
noncomputable def qi (p:au) (q:aV) (sch:List Int) (number:Int):AV:=
 if cV p q≠0 then .tup [.agg [.int .i64 0, .nilsl], .int .i64 (cV p q)]
 else if¬cM (aA p.rules).length sch\/number< -1\/(ta p q:Int)<=number then .tup [.agg [.int .i64 0, .nilsl], .int .i64 1]
 else .tup [.agg [.int .i64 (ao p q sch).length, .sl bz bE (dq p q sch number)], .int .i64 0]
theorem HC (p:au) (q:aV) (hp:gM p) (hq:qP q) (sch:List Int) (hl:sch.length<=140737488355328) (number:Int):ab Tryz.prog 33 [.agg (aO p), .agg (fg q), .sl 0 an sch, .int .i64 number] (fun u=>u=qi p q sch number):=by
 have he:=qi.eq_1 p q sch number
 refine ab.intro ac ag Tryz.func33 rfl (by decide) ?_;(conv=>whnf)
 refine al rfl ?_
 conv=>whnf
 refine al rfl ?_
 conv=>whnf
 refine ak.of_pure (n:=5) (rR p q hp hq) (by rfl) ?_
 rintro _ rfl
 by_cases h:cV p q=0
 ·rw[if_neg (by omega)] at he
  rw[iL h]
  have hcs:=xh h
  conv=>whnf
  refine fI ?_
  conv=>whnf
  refine dC (nG p q sch hl) (fun _=>?_) (fun _=>?_)<;>(conv=>whnf)
  ·rename_i hs
   refine ah ?_ ?_<;>(intro h1;conv=>whnf)
   ·rw[if_pos (.inr (.inl h1))] at he
    exact⟨he.symm,rfl⟩
   refine ah ?_ ?_<;>(intro h2;conv=>whnf)
   ·rw[if_pos (.inr (.inr (by omega)))] at he
    exact⟨he.symm,rfl⟩
   rw[if_neg (fun hh=>by rcases hh with hh|hh|hh;exact hh hs;omega;omega)] at he
   (refine oP (CZ p q (c8 h) sch hs number (by omega)) ?_;conv=>whnf)
   exact⟨he.symm,rfl⟩
  ·rename_i hs
   rw[if_pos (.inl hs)] at he
   exact⟨he.symm,rfl⟩
 ·rw[if_pos h] at he
  rw[gg rfl h]
  conv=>whnf
  refine da h ?_
  conv=>whnf
  exact⟨he.symm,rfl⟩
end Go.Proofs.YtnjggjhkfncnlaaGreatDoor
