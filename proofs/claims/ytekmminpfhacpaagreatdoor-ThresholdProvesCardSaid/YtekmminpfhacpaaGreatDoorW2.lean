import Derived.Test.YtekmminpfhacpaaGreatDoorW1
set_option linter.unusedVariables false
set_option linter.unusedSimpArgs false
namespace Go.Proofs.YtekmminpfhacpaaGreatDoor
set_option maxRecDepth 100000
set_option maxHeartbeats 16000000
def PV:bc:=[(200, .old 200),(201, .old 201),(202, .old 201),(210, .old 210),(211, .old 211),(212, .old 212),(213, .old 213),(214, .old 214),(215, .old 215),(216, .old 216)]
def xr:bc:=[(200, .old 200),(201, .old 201),(202, .old 202),(210, .old 210),(211, .old 211),(212, .old 212),(213, .old 213),(214, .old 214),(215, .old 215),(216, .old 216)]
def G6:bc:=[(200, .old 200),(201, .old 202),(210, .old 210),(211, .old 211),(212, .old 212),(213, .old 213),(214, .old 214),(215, .old 215),(216, .old 216)]
def Mu:bc:=[(200, .old 200),(202, .old 201),(210, .old 210),(211, .old 211),(212, .old 212),(213, .old 213),(214, .old 214),(215, .old 215),(216, .old 216)]
noncomputable abbrev Mv (lr:Nat) (p:av) (q:aP) (sch:List Int) (vars:List Vb) (rows:List aV):List (Nat×bf):=
 [(200, .box 156 (KV p q sch vars.length lr rows.length)),(lr, .row 161 ar aw rows),(210,gR vars 0),(211,gR vars 1),(212,gR vars 2),(213,gR vars 3),(214,gR vars 4),(215,gR vars 5),(216,gR vars 6)]
theorem once {A B:Prop} (h:A) (k:A->B):B:=k h
theorem c5 {A1 A2 A3 A4 A5 A6 B:Prop} (k:A1->A2->A3->A4->A5->A6->B) (h1:A1) (h2:A2) (h3:A3) (h4:A4) (h5:A5) (h6:A6):B:=k h1 h2 h3 h4 h5 h6
theorem J4 (kind:Int) (c:Co) (k:Int):bo c k (tP kind 0)=c:=by
 funext v
 have h:¬(v.kind=kind/\v.seg=0/\0<=v.idx/\v.idx<(0:Nat)):=by omega
 unfold bo tP
 rw[if_neg h];omega
theorem PW (kind:Int) (n:Nat) (v:Vb):-2<=tP kind n v/\tP kind n v<=2:=by
 unfold tP
 split<;>omega
theorem lR {X:Int} (h:0<=X):ko X zC:=fun v=>by unfold zC;omega
theorem Ox (x:Nat) (hx:x<2):-1<=([1,-1]:List Int).getD (x:Int).toNat 0/\([1,-1]:List Int).getD (x:Int).toNat 0<=1:=by
 obtain rfl|rfl:x=0\/x=1:=by omega
 ·decide
 ·decide
theorem PX (p:av) (q:aP) (sch:List Int) (vars:List Vb) (rows:List aV) (hn:vars.Nodup) (hv:vars.length<=1000000) (hr:rows.length<=1000000) (hs:p.states.length<=1000) (kind:Int) (hk:0<=kind/\kind<7) (l:lp) (hl:eY l):
  aj Tryz.prog 107 [.ptr 200 0, .int .i64 kind, .agg (cq l)] (ag.ofL (fT p q sch vars rows))
   (fun u M=>u= .tup []/\M=ag.ofL (px p q sch vars (rows++[aQ vars (jK kind p.states.length 1 l),aQ vars (jK kind p.states.length (-1) l)]))):=by
 have hF0:∀k,bo zC k (tP kind 0)=zC:=fun k=>J4 kind zC k
 have hFn:∀k i,bo zC k (tP kind (i+1))=fq (bo zC k (tP kind i)) ⟨kind,0,i⟩ k:=fun k i=>JM kind i zC k
 have hFb:∀k i,cd k->ko 1000 (bo zC k (tP kind i)):=fun k i h=>aF (ic (lR (X:=0) (by omega)) h (PW kind i)) (by omega)
 have hsta:∀k,jK kind p.states.length k l=(bo (bo zC k (tP kind p.states.length)) (-k) (bH l),-k*l.c):=fun k=>rfl
 obtain⟨F,hF⟩:∃F:Int->Nat->Co,F=fun k i=>bo zC k (tP kind i):=⟨_,rfl⟩
 have e0:∀k i,bo zC k (tP kind i)=F k i:=fun k i=>by rw[hF]
 simp only[e0] at hF0 hFn hFb hsta
 clear e0 hF
 obtain⟨G,hG⟩:∃G:Int->Co,G=fun k=>bo (F k p.states.length) (-k) (bH l):=⟨_,rfl⟩
 have hadd:∀rs k (i:Nat),cd k->aj Tryz.prog 195 [.ptr 200 0, .ptr 220 0, .int .i64 k, .int .i64 kind, .int .i64 0, .int .i64 (i:Int)] (ag.ofL (fF p q sch vars rs (F k i) 0))
   (fun u M=>u= .tup []/\M=ag.ofL (fF p q sch vars rs (F k (i+1)) 0)):=fun rs k i h=>by
  have h':-100<=k/\k<=100:=h
  rw[hFn k i]
  exact J2 p q sch vars rs (F k i) 0 hn hv kind hk 0 i k (aF (hFb k i h) (by omega)) (by omega)
 have hlin:∀rs k,cd k->aj Tryz.prog 194 [.ptr 200 0, .ptr 220 0, .int .i64 (-k), .agg (cq l)] (ag.ofL (fF p q sch vars rs (F k p.states.length) 0))
   (fun u M=>u= .tup []/\M=ag.ofL (fF p q sch vars rs (G k) (-k*l.c))):=fun rs k h=>by
  have h':-100<=k/\k<=100:=h
  have a:=EG p q sch vars rs (F k p.states.length) 0 hn hv (-k) l (aF (hFb k _ h) (by omega)) (by omega) (by unfold cd;omega) hl
  rw[Int.zero_add] at a
  rw[hG]
  exact a
 simp only[hsta]
 have hG':∀k,bo (F k p.states.length) (-k) (bH l)=G k:=fun k=>by rw[hG]
 simp only[hG']
 clear hsta hG hG'
 obtain⟨R,hR⟩:∃R:Nat->List aV,R=fun x=>rows++[aQ vars (G 1,-1*l.c),aQ vars (G (-1),-(-1)*l.c)].take x:=⟨_,rfl⟩
 have hR0:R 0=rows:=by rw[hR];simp
 have hR2:rows++[aQ vars (G 1,-1*l.c),aQ vars (G (-1),-(-1)*l.c)]=R 2:=by rw[hR];rfl
 have hRn:∀x,x<2->R (x+1)=R x++[aQ vars (G (([1,-1]:List Int).getD (x:Int).toNat 0),-(([1,-1]:List Int).getD (x:Int).toNat 0)*l.c)]:=fun x hx=>by
  obtain rfl|rfl:x=0\/x=1:=by omega
  ·rw[hR];simp
  ·rw[hR];simp
 have hRl:∀x,(R x).length<=1000002:=fun x=>by
  rw[hR];simp only[List.length_append,List.length_take,List.length_cons,List.length_nil];omega
 rw[hR2]
 subst hR0
 clear hR hR2
 refine aj.renorm 400 (R:=fun u M=>u= .tup []/\bG xr 400 M (px p q sch vars (R 2))) ?_ ?_
 case refine_2=>
  rintro u M ⟨rfl,hM⟩
  exact⟨xr,_, .tup [],rfl,hM,trivial,rfl,rfl⟩
 refine aj.intro ab ac (fT p q sch vars (R 0)) Tryz.func107 rfl (by decide) ?_
 simp only[eJ]
 rw[show Tryz.f107.ntmps=52 from rfl]
 simp only[bX]
 simp only[cF]
 rw[be]
 simp only[gv,aG,List.map_cons,List.map_nil,aZ]
 conv=>whnf
 refine au rfl ?_
 conv=>whnf
 refine aJ.loopF ab ac (fun x:Nat=>x<=2) (fun x=>[(12, .int .i64 (x:Int))]) (fun x=>px p q sch vars (R x)++[(10, .row 3 0 al [1,-1])]) (fun x=>2-x) 0 (Nat.zero_le _) ?_;conv=>whnf
 refine⟨aH.by_ (PV++[(10, .old 10)]) _ 400 rfl (aa) (aa),?_⟩
 rintro x hx
 conv=>whnf
 refine ae ?_ ?_<;>(intro h1;conv=>whnf)
 ·have hfl:=Ox x (by omega)
  have hRn1:=hRn x (by omega)
  have hRl1:=hRl x
  repeat' first|refine dt ?_;conv=>whnf|fail
  generalize ([1,-1]:List Int).getD (x:Int).toNat 0=k at*
  have hkf:cd k:=by unfold cd;omega
  refine aj.call G6 (fT p q sch vars (R x)) 400 rfl (aa) (aa) (BC p q sch vars (R x) hv) ?_
  rintro u M' ⟨rfl,rfl⟩
  refine⟨Mu++[(221, .old 221)],Mv 202 p q sch vars (R x)++[(221, .row 3 0 al (vars.map zC))], .agg [.row 221 vars.length 1, .int .i64 0],rfl,(aa),(aa),?_⟩
  conv=>whnf
  refine aJ.loopF ab ac (fun i:Nat=>i<=p.states.length) (fun i=>[(27, .int .i64 (i:Int))]) (fun i=>px p q sch vars (R x)++[(10, .row 3 0 al [1,-1]),(8, .box 161 [.row 221 vars.length 1, .int .i64 0]),(221, .row 3 0 al (vars.map (F k i)))]) (fun i=>p.states.length-i) 0 (Nat.zero_le _) ?_;conv=>whnf
  refine⟨by rw[hF0 k];exact aH.by_ (xr++[(10, .old 10),(8, .old 8),(221, .old 221)]) _ 400 rfl (aa) (aa),?_⟩
  rintro i hi
  conv=>whnf
  refine ae ?_ ?_<;>(intro h2;conv=>whnf)
  ·repeat' first|refine dt ?_;conv=>whnf|fail
   refine aj.call (G6++[(220, .old 8),(221, .old 221)]) (fF p q sch vars (R x) (F k i) 0) 400 rfl (aa) (aa) (hadd (R x) k i hkf) ?_
   rintro u M' ⟨rfl,rfl⟩
   refine⟨Mu++[(8, .old 220),(221, .old 221)],Mv 202 p q sch vars (R x)++[(8, .box 161 [.row 221 vars.length 1, .int .i64 0]),(221, .row 3 0 al (vars.map (F k (i+1))))], .tup [],rfl,(aa),trivial,?_⟩
   conv=>whnf
   repeat' first|refine dt ?_;conv=>whnf|fail
   refine⟨i+1,?_,by omega,by dsimp only;omega⟩
   exact aH.by_ (xr++[(10, .old 10),(8, .old 8),(221, .old 221)]) _ 400 rfl (aa) (aa)
  ·obtain rfl:i=p.states.length:=by omega
   repeat' first|refine dt ?_;conv=>whnf|fail
   refine aj.call (G6++[(220, .old 8),(221, .old 221)]) (fF p q sch vars (R x) (F k p.states.length) 0) 400 rfl (aa) (aa) (hlin (R x) k hkf) ?_
   rintro u M' ⟨rfl,rfl⟩
   refine⟨Mu++[(8, .old 220),(221, .old 221)],Mv 202 p q sch vars (R x)++[(8, .box 161 [.row 221 vars.length 1, .int .i64 (-k*l.c)]),(221, .row 3 0 al (vars.map (G k)))], .tup [],rfl,(aa),trivial,?_⟩
   conv=>whnf
   apply c5
   case k=>
    intro o1 o2 o3 o4 o5 o6
    refine mL [0,1,2,3,8,9] (by decide+kernel) ?_
    conv=>whnf
    repeat' first
     |exact True.intro
     |(refine And.intro ?_ ?_<;>conv=>whnf)
     |(refine bp ar aw [aQ vars (G k,-k*l.c)] rfl ?_;conv=>whnf)
     |(refine bU ?_;conv=>whnf)
     |(refine bq [aQ vars (G k,-k*l.c)] rfl (by clear o1 o2 o3 o4 o5 o6;simp only[List.length_cons,List.length_nil];omega) ?_;conv=>whnf)
     |with_reducible assumption
     |fail
   all_goals try first
    |exact True.intro
    |exact True
   all_goals
    repeat' first|refine dt ?_;conv=>whnf|fail
    refine⟨x+1,?_,by omega,by dsimp only;omega⟩
    dsimp only
    rw[hRn1]
    exact aH.by_ [(200, .old 200),(201, .old 201),(202, .old 48),(210, .old 210),(211, .old 211),(212, .old 212),(213, .old 213),(214, .old 214),(215, .old 215),(216, .old 216),(10, .old 10)] _ 400 rfl (aa) (aa)
 ·obtain rfl:x=2:=by omega
  exact⟨rfl,(aa)⟩
def PY:Option Code->Code
 |some (.seq _ (.seq (.seq _ b) r))=>.seq b r
 |_=>.skip
theorem PZ (p:av) (q:aP) (sch:List Int) (vars:List Vb) (rows:List aV) (hv:vars.length<=1000000) (hr:rows.length<=100000) (hst:p.states.length<=1000) (A B:Nat->Co) (R Q:Nat->List aV) (j:Nat)
  (hAp:∀rs (x:Nat),aj Tryz.prog 197 [.ptr 200 0, .ptr 220 0, .int .i64 1, .int .i64 3, .int .i64 5, .int .i64 (x:Int), .int .i64 (j:Int)] (ag.ofL (fF p q sch vars rs zC 0))
   (fun u M=>u= .tup []/\M=ag.ofL (fF p q sch vars rs (A x) 0)))
  (hBp:∀rs (x:Nat),aj Tryz.prog 197 [.ptr 200 0, .ptr 220 0, .int .i64 1, .int .i64 4, .int .i64 6, .int .i64 (x:Int), .int .i64 (j:Int)] (ag.ofL (fF p q sch vars rs zC 0))
   (fun u M=>u= .tup []/\M=ag.ofL (fF p q sch vars rs (B x) 0)))
  (hRn:∀x,R (x+1)=R x++[aQ vars (A x,0)]) (hQ0:Q 0=R p.states.length) (hQn:∀x,Q (x+1)=Q x++[aQ vars (B x,0)])
  (hRl:∀x,x<=p.states.length->(R x).length<=102000) (hQl:∀x,x<=p.states.length->(Q x).length<=104000):
  bX Tryz.prog tt ((fT p q sch vars rows).map (·.1)) (PY Tryz.f109.body) ([.ptr 200 0, .int .i64 (j:Int)]++List.replicate 78 .top++[.int .i64 (p.states.length:Int), .int .i64 0]++List.replicate 54 .top) (ag.ofL (px p q sch vars (R 0)))
   (LC tt Tryz.f109.results.toList (fun u M=>u= .tup []/\bG xr 400 M (px p q sch vars (if jZ p then Q p.states.length else R p.states.length)))):=by
 (conv=>whnf)
 refine aJ.loopF ab ac (fun x:Nat=>x<=p.states.length) (fun x=>[(81, .int .i64 (x:Int))]) (fun x=>px p q sch vars (R x)) (fun x=>p.states.length-x) 0 (Nat.zero_le _) ?_;conv=>whnf
 refine⟨aH.by_ xr _ 400 rfl (aa) (aa),?_⟩
 rintro x hx
 conv=>whnf
 refine ae ?_ ?_<;>(intro h2;conv=>whnf)
 ·as_aux_lemma=>
  have hl1:=hRl x (by omega)
  have hR1:=hRn x
  repeat' first|refine dt ?_;conv=>whnf|fail
  refine aj.call G6 (fT p q sch vars (R x)) 400 rfl (aa) (aa) (BC p q sch vars (R x) hv) ?_
  rintro u M' ⟨rfl,rfl⟩
  refine⟨Mu++[(221, .old 221)],Mv 202 p q sch vars (R x)++[(221, .row 3 0 al (vars.map zC))], .agg [.row 221 vars.length 1, .int .i64 0],rfl,(aa),(aa),?_⟩
  conv=>whnf
  refine aj.call (G6++[(220, .old 7),(221, .old 221)]) (fF p q sch vars (R x) zC 0) 400 rfl (aa) (aa) (hAp (R x) x) ?_
  rintro u M' ⟨rfl,rfl⟩
  refine⟨Mu++[(7, .old 220),(221, .old 221)],Mv 202 p q sch vars (R x)++[(7, .box 161 [.row 221 vars.length 1, .int .i64 0]),(221, .row 3 0 al (vars.map (A x)))], .tup [],rfl,(aa),trivial,?_⟩
  conv=>whnf
  apply c5
  case k=>
   intro o1 o2 o3 o4 o5 o6
   refine mL [0,1,2,3,8,9] (by decide+kernel) ?_
   conv=>whnf
   repeat' first
    |exact True.intro
    |(refine And.intro ?_ ?_<;>conv=>whnf)
    |(refine bp ar aw [aQ vars (A x,0)] rfl ?_;conv=>whnf)
    |(refine bU ?_;conv=>whnf)
    |(refine bq [aQ vars (A x,0)] rfl (by clear o1 o2 o3 o4 o5 o6;simp only[List.length_cons,List.length_nil];omega) ?_;conv=>whnf)
    |with_reducible assumption
    |fail
  all_goals try first
   |exact True.intro
   |exact True
  all_goals
   repeat' first|refine dt ?_;conv=>whnf|fail
   refine⟨x+1,?_,by omega,by dsimp only;omega⟩
   dsimp only
   rw[hR1]
   exact aH.by_ [(200, .old 200),(201, .old 201),(202, .old 97),(210, .old 210),(211, .old 211),(212, .old 212),(213, .old 213),(214, .old 214),(215, .old 215),(216, .old 216)] _ 400 rfl (aa) (aa)
 ·obtain rfl:x=p.states.length:=by omega
  refine dC (jA p q) (fun _=>?_) (fun _=>?_)<;>(conv=>whnf)
  ·rename_i hw
   rw[if_pos hw]
   refine aJ.loopF ab ac (fun x:Nat=>x<=p.states.length) (fun x=>[(116, .int .i64 (x:Int))]) (fun x=>px p q sch vars (Q x)) (fun x=>p.states.length-x) 0 (Nat.zero_le _) ?_;conv=>whnf
   refine⟨by rw[hQ0];exact aH.by_ xr _ 400 rfl (aa) (aa),?_⟩
   rintro x hx
   conv=>whnf
   refine ae ?_ ?_<;>(intro h2;conv=>whnf)
   ·as_aux_lemma=>
    have hl1:=hQl x (by omega)
    have hR1:=hQn x
    repeat' first|refine dt ?_;conv=>whnf|fail
    refine aj.call G6 (fT p q sch vars (Q x)) 400 rfl (aa) (aa) (BC p q sch vars (Q x) hv) ?_
    rintro u M' ⟨rfl,rfl⟩
    refine⟨Mu++[(221, .old 221)],Mv 202 p q sch vars (Q x)++[(221, .row 3 0 al (vars.map zC))], .agg [.row 221 vars.length 1, .int .i64 0],rfl,(aa),(aa),?_⟩
    conv=>whnf
    refine aj.call (G6++[(220, .old 9),(221, .old 221)]) (fF p q sch vars (Q x) zC 0) 400 rfl (aa) (aa) (hBp (Q x) x) ?_
    rintro u M' ⟨rfl,rfl⟩
    refine⟨Mu++[(9, .old 220),(221, .old 221)],Mv 202 p q sch vars (Q x)++[(9, .box 161 [.row 221 vars.length 1, .int .i64 0]),(221, .row 3 0 al (vars.map (B x)))], .tup [],rfl,(aa),trivial,?_⟩
    conv=>whnf
    apply c5
    case k=>
     intro o1 o2 o3 o4 o5 o6
     refine mL [0,1,2,3,8,9] (by decide+kernel) ?_
     conv=>whnf
     repeat' first
      |exact True.intro
      |(refine And.intro ?_ ?_<;>conv=>whnf)
      |(refine bp ar aw [aQ vars (B x,0)] rfl ?_;conv=>whnf)
      |(refine bU ?_;conv=>whnf)
      |(refine bq [aQ vars (B x,0)] rfl (by clear o1 o2 o3 o4 o5 o6;simp only[List.length_cons,List.length_nil];omega) ?_;conv=>whnf)
      |with_reducible assumption
      |fail
    all_goals try first
     |exact True.intro
     |exact True
    all_goals
     repeat' first|refine dt ?_;conv=>whnf|fail
     refine⟨x+1,?_,by omega,by dsimp only;omega⟩
     dsimp only
     rw[hR1]
     exact aH.by_ [(200, .old 200),(201, .old 201),(202, .old 132),(210, .old 210),(211, .old 211),(212, .old 212),(213, .old 213),(214, .old 214),(215, .old 215),(216, .old 216)] _ 400 rfl (aa) (aa)
   ·obtain rfl:x=p.states.length:=by omega
    exact⟨rfl,(aa)⟩
  ·rename_i hw
   rw[if_neg hw]
   exact⟨rfl,(aa)⟩
theorem bv {P:Program} {tt:TT} {draw:Option aL} {all r:List Oper} {o:Oper} {fr fr':List AV} {M:ag} {K:List AV->ag->Prop} (u:AV) (hg:o.guard=none)
  (h:∀K':AV->ag->Prop,K' u M->aZ P tt draw o ((aG o.op).map (cY fr)) M K') (e:cA fr o.dst u=fr') (hk:cF P tt draw all r fr' M K):cF P tt draw all (o::r) fr M K:=by
 subst e
 simp only[cF]
 rw[be]
 rw[hg]
 simp only[gv]
 exact h _ hk
theorem ie {P:Program} {tt:TT} {all r:List Oper} {fr:List AV} {M:ag} {K:List AV->ag->Prop} {d:Option Tmp} {a:Operand} {xs:Array Operand} {ts:Array TypeId} {ty:TypeId} {ps:String} {af:Array Edge} {f:FuncId} {caps us:List AV}
  (ha:cY fr a= .fn f caps) (hs:xs.toList.map (cY fr)=us) (h:aj P f (us++caps) M fun u M'=>mf fr d u fun fr'=>cF P tt none all r fr' M' K):
  cF P tt none all ({dst:=d,op:=.call {callee:=.value a,args:=xs,argTypes:=ts},type:=ty,pos:=ps,after:=af,guard:=none}::r) fr M K:=by
 subst hs
 simp only[cF]
 rw[be]
 simp only[gv,aG,List.map_cons,ha,aZ,m4]
 simp only[fj] at h
 exact h
theorem iG {P:Program} {tt:TT} {draw:Option aL} {all:List Oper} {fr:List AV} {M:ag} {K:List AV->ag->Prop} (h:K fr M):cF P tt draw all [] fr M K:=h
theorem f7 {P:Program} {tt:TT} {D:List Nat} {a b:Code} {fr:List AV} {M:ag} {Q:dY} (h:bX P tt D a fr M fun e fr' M'=>match e with
  |.normal=>bX P tt D b fr' M' Q
  |.exit i=>Q (.exit i) fr' M'
  |.ret=>Q .ret fr' M'):bX P tt D (.seq a b) fr M Q:=h
theorem e7 {P:Program} {tt:TT} {D:List Nat} {id:Nat} {ops:Array Oper} {fr:List AV} {M:ag} {Q:dY} (h:cF P tt none ops.toList ops.toList fr M (Q .normal)):bX P tt D (.region id ops false) fr M Q:=h
theorem G7 {P:Program} {tt:TT} {draw:Option aL} {all r:List Oper} {fr frX:List AV} {M MX:ag} {K:List AV->ag->Prop} (h:∀K0:List AV->ag->Prop,K0 frX MX->cF P tt draw all r fr M K0) (hk:K frX MX):cF P tt draw all r fr M K:=h K hk
theorem EI {P:Program} {tt:TT} {draw:Option aL} {all r:List Oper} {fr fr1 fr2:List AV} {M M1 M2:ag} {K:List AV->ag->Prop} {c:Prop} (h:∀K0:List AV->ag->Prop,(c->K0 fr1 M1)->(¬c->K0 fr2 M2)->cF P tt draw all r fr M K0) (hk1:c->K fr1 M1) (hk2:¬c->K fr2 M2):cF P tt draw all r fr M K:=h K hk1 hk2
theorem rn {P:Program} {tt:TT} {D:List Nat} {c:Operand} {x y:Code} {fr:List AV} {M:ag} {Q:dY} (hc:cY fr c= .bool true) (h:bX P tt D x fr M Q):bX P tt D (.cond c x y) fr M Q:=by
 simp only[bX,wN,hc];exact h
theorem zw {P:Program} {tt:TT} {D:List Nat} {c:Operand} {x y:Code} {fr:List AV} {M:ag} {Q:dY} (hc:cY fr c= .bool false) (h:bX P tt D y fr M Q):bX P tt D (.cond c x y) fr M Q:=by
 simp only[bX,wN,hc];exact h
theorem BD {P:Program} {tt:TT} {D:List Nat} {fr:List AV} {M:ag} {Q:dY} (h:Q .normal fr M):bX P tt D .skip fr M Q:=h
theorem Oy (b:Int):0+-1*b=-b:=by omega
theorem P0 (p:av) (q:aP) (sch:List Int) (vars:List Vb) (rows:List aV) (hn:vars.Nodup) (hv:vars.length<=1000000) (hr:rows.length<=100000) (hst:p.states.length<=1000) (hrl:p.rules.length<=1000) (hsd:∀i,i<p.rules.length->(p.rules.getD i ax).send.length<=1000000)
  (hT:(ay p.rules).length<=10) (hg:∀g∈ay p.rules,(1<=g.coef/\g.coef<=100)/\eY g.bound) (hsch:dS (ay p.rules).length sch) (j:Nat) (hj:j<=sch.length):
  aj Tryz.prog 109 [.ptr 200 0, .int .i64 (j:Int)] (ag.ofL (fT p q sch vars rows))
   (fun u M=>u= .tup []/\M=ag.ofL (px p q sch vars (rows++(oi p sch j).map (aQ vars)))):=by
 have hsl:=cu hsch
 have z1:ko 1099511627776 zC:=lR (by omega)
 obtain⟨A,hA⟩:∃A:Nat->Co,A=fun(x:Nat)=>bo zC 1 (dE p.rules 3 5 x (j+1) 0):=⟨_,rfl⟩
 obtain⟨B,hB⟩:∃B:Nat->Co,B=fun(x:Nat)=>bo zC 1 (dE p.rules 4 6 x (j+1) 0):=⟨_,rfl⟩
 have hAp:∀rs (x:Nat),aj Tryz.prog 197 [.ptr 200 0, .ptr 220 0, .int .i64 1, .int .i64 3, .int .i64 5, .int .i64 (x:Int), .int .i64 (j:Int)] (ag.ofL (fF p q sch vars rs zC 0))
   (fun u M=>u= .tup []/\M=ag.ofL (fF p q sch vars rs (A x) 0)):=fun rs x=>by
  rw[hA];exact CT p q sch vars rs zC 0 hn hv 1 x 3 5 j (by omega) (by omega) (by omega) hrl z1 (by unfold cd;omega)
 have hBp:∀rs (x:Nat),aj Tryz.prog 197 [.ptr 200 0, .ptr 220 0, .int .i64 1, .int .i64 4, .int .i64 6, .int .i64 (x:Int), .int .i64 (j:Int)] (ag.ofL (fF p q sch vars rs zC 0))
   (fun u M=>u= .tup []/\M=ag.ofL (fF p q sch vars rs (B x) 0)):=fun rs x=>by
  rw[hB];exact CT p q sch vars rs zC 0 hn hv 1 x 4 6 j (by omega) (by omega) (by omega) hrl z1 (by unfold cd;omega)
 obtain⟨R,hR⟩:∃R:Nat->List aV,R=fun x=>rows++(if 0<j then[aQ vars (qA p ((ay p.rules).getD (sch.getD (j-1) 0).toNat aM) j)] else[])++(List.range x).map fun x=>aQ vars (A x,0):=⟨_,rfl⟩
 obtain⟨Q,hQ⟩:∃Q:Nat->List aV,Q=fun x=>R p.states.length++(List.range x).map fun x=>aQ vars (B x,0):=⟨_,rfl⟩
 have hR0:0<j->R 0=rows++[aQ vars (qA p ((ay p.rules).getD (sch.getD ((j:Int)-1).toNat 0).toNat aM) j)]:=fun h=>by
  rw[hR,show((j:Int)-1).toNat=j-1 by omega];simp only[if_pos h,List.range_zero,List.map_nil,List.append_nil]
 have hRz:¬0<j->R 0=rows:=fun h=>by
  rw[hR];simp only[if_neg h,List.range_zero,List.map_nil,List.append_nil]
 have hRn:∀x,R (x+1)=R x++[aQ vars (A x,0)]:=fun x=>by
  rw[hR];simp only[List.range_succ,List.map_append,List.map_cons,List.map_nil,List.append_assoc]
 have hQ0:Q 0=R p.states.length:=by rw[hQ];simp
 have hQn:∀x,Q (x+1)=Q x++[aQ vars (B x,0)]:=fun x=>by
  rw[hQ];simp only[List.range_succ,List.map_append,List.map_cons,List.map_nil,List.append_assoc]
 have hRl:∀x,x<=p.states.length->(R x).length<=102000:=fun x hx=>by
  have:(if 0<j then[aQ vars (qA p ((ay p.rules).getD (sch.getD (j-1) 0).toNat aM) j)] else[]).length<=1:=by split<;>simp
  rw[hR];simp only[List.length_append,List.length_map,List.length_range];omega
 have hQl:∀x,x<=p.states.length->(Q x).length<=104000:=fun x hx=>by
  have:=hRl p.states.length (Nat.le_refl _)
  rw[hQ];simp only[List.length_append,List.length_map,List.length_range];omega
 have hend:rows++(oi p sch j).map (aQ vars)=if jZ p then Q p.states.length else R p.states.length:=by
  have e1:∀x:Nat,Er p 3 5 x j=(A x,0):=fun x=>by rw[hA];rfl
  have e2:∀x:Nat,Er p 4 6 x j=(B x,0):=fun x=>by rw[hB];rfl
  unfold oi
  simp only[e1,e2]
  by_cases h1:0<j<;>by_cases h2:jZ p<;>simp[hQ,hR,h1,h2,List.map_map,Function.comp_def]
 rw[hend]
 clear hend hR hQ hA hB
 refine aj.renorm 400 (R:=fun u M=>u= .tup []/\bG xr 400 M (px p q sch vars (if jZ p then Q p.states.length else R p.states.length))) ?_ ?_
 case refine_2=>
  rintro u M ⟨rfl,hM⟩
  exact⟨xr,_, .tup [],rfl,hM,trivial,rfl,rfl⟩
 refine aj.intro ab ac (fT p q sch vars rows) Tryz.func109 rfl (by decide) ?_
 conv=>whnf
 have hs0:=PZ p q sch vars rows hv hr hst A B R Q j hAp hBp hRn hQ0 hQn hRl hQl
 conv at hs0=>whnf
 refine ae ?_ ?_<;>(intro h1;conv=>whnf)
 rotate_left
 ·exact aJ.sub (by rw[hRz (by omega)];exact aH.by_ PV _ 400 rfl (aa) (aa)) hs0
 ·have h1:0<j:=by omega
  have hb1:=hsch ((j:Int)-1).toNat (by omega)
  refine F3 rfl ?_
  conv=>whnf
  repeat' first|refine dt ?_;conv=>whnf|fail
  have hR0:=hR0
  have hgm:=hg _ (bu (l:=ay p.rules) (k:=(sch.getD ((j:Int)-1).toNat 0).toNat) aM (by omega))
  generalize (ay p.rules).getD (sch.getD ((j:Int)-1).toNat 0).toNat aM=g at hR0 hgm⊢
  obtain⟨hgc,hgb⟩:=hgm
  have s1:=CU p q sch vars rows zC 0 hn hv g.coef g.message 5 j (by omega) (by omega) hrl hsd z1 (by unfold cd;omega)
  have c1:ko 1000 (bo zC g.coef (c7 p.rules 5 g.message j 0)):=aF (ic (lR (X:=0) (by omega)) (by unfold cd;omega) fun v=>by have:=vP p.rules 5 g.message j 0 v;omega) (by omega)
  have s2:=CU p q sch vars rows _ 0 hn hv g.coef g.message 6 j (by omega) (by omega) hrl hsd (aF c1 (by omega)) (by unfold cd;omega)
  have c2:ko 2000 (bo (bo zC g.coef (c7 p.rules 5 g.message j 0)) g.coef (c7 p.rules 6 g.message j 0)):=aF (ic c1 (by unfold cd;omega) fun v=>by have:=vP p.rules 6 g.message j 0 v;omega) (by omega)
  have s3:=BB p q sch vars rows _ 0 hn hv 2 (by omega) 0 0 g.coef (aF c2 (by omega)) (by omega)
  have c3:=r6 c2 ⟨2,0,0⟩ (k:=g.coef) (Y:=100) (by omega) (by omega)
  have l3:=EG p q sch vars rows _ 0 hn hv (-1) g.bound (aF c3 (by omega)) (by omega) (by unfold cd;omega) hgb
  have l2:=EG p q sch vars rows _ 0 hn hv (-1) g.bound (aF c2 (by omega)) (by omega) (by unfold cd;omega) hgb
  rw[Oy] at l3 l2
  have gA:p.fault=3->qA p g j=(bo (fq (bo (bo zC g.coef (c7 p.rules 5 g.message j 0)) g.coef (c7 p.rules 6 g.message j 0)) ⟨2,0,0⟩ g.coef) (-1) (bH g.bound),-g.bound.c):=fun h=>by unfold qA;simp only[if_pos h]
  have gB:¬p.fault=3->qA p g j=(bo (bo (bo zC g.coef (c7 p.rules 5 g.message j 0)) g.coef (c7 p.rules 6 g.message j 0)) (-1) (bH g.bound),-g.bound.c):=fun h=>by unfold qA;simp only[if_neg h]
  clear c1 c2 c3
  generalize bo zC g.coef (c7 p.rules 5 g.message j 0)=d1 at*
  generalize bo d1 g.coef (c7 p.rules 6 g.message j 0)=d2 at*
  generalize fq d2 ⟨2,0,0⟩ g.coef=d3 at*
  generalize bo d3 (-1) (bH g.bound)=e3 at*
  generalize bo d2 (-1) (bH g.bound)=e2 at*
  refine aj.call gS (fT p q sch vars rows) 400 rfl (aa) (aa) (BC p q sch vars rows hv) ?_
  rintro u M' ⟨rfl,rfl⟩
  refine⟨gS++[(221, .old 221)],fT p q sch vars rows++[(221, .row 3 0 al (vars.map zC))], .agg [.row 221 vars.length 1, .int .i64 0],rfl,(aa),(aa),?_⟩
  simp only[mf,nC]
  apply G7
  case h=>
   intro K0 h0
   conv=>whnf
   exact h0
  refine f7 ?_
  refine e7 ?_
  refine bv (.ptr 200 0) rfl (fun K' h=>?_) rfl ?_
  ·conv=>whnf
   exact h
  refine bv (.ptr 4 (0+1)) rfl (fun K' h=>?_) rfl ?_
  ·conv=>whnf
   exact h
  refine bv (.int .i64 g.coef) rfl (fun K' h=>?_) rfl ?_
  ·conv=>whnf
   exact h
  refine bv (.ptr 4 (0+0)) rfl (fun K' h=>?_) rfl ?_
  ·conv=>whnf
   exact h
  refine bv (.int .i64 g.message) rfl (fun K' h=>?_) rfl ?_
  ·conv=>whnf
   exact h
  refine bv (.int .i64 (j:Int)) rfl (fun K' h=>?_) rfl ?_
  ·conv=>whnf
   exact h
  refine ie rfl rfl ?_
  refine aj.call (gS++[(220, .old 5),(221, .old 221)]) (fF p q sch vars rows zC 0) 400 rfl (aa) (aa) s1 ?_
  rintro u M' ⟨rfl,rfl⟩
  refine⟨gS++[(5, .old 220),(221, .old 221)],fT p q sch vars rows++[(5, .box 161 [.row 221 vars.length 1, .int .i64 0]),(221, .row 3 0 al (vars.map d1))], .tup [],rfl,(aa),trivial,?_⟩
  simp only[mf,nC,cA,List.set]
  refine iG ?_
  refine f7 ?_
  refine e7 ?_
  refine bv (.ptr 200 0) rfl (fun K' h=>?_) rfl ?_
  ·conv=>whnf
   exact h
  refine bv (.ptr 4 (0+1)) rfl (fun K' h=>?_) rfl ?_
  ·conv=>whnf
   exact h
  refine bv (.int .i64 g.coef) rfl (fun K' h=>?_) rfl ?_
  ·conv=>whnf
   exact h
  refine bv (.ptr 4 (0+0)) rfl (fun K' h=>?_) rfl ?_
  ·conv=>whnf
   exact h
  refine bv (.int .i64 g.message) rfl (fun K' h=>?_) rfl ?_
  ·conv=>whnf
   exact h
  refine bv (.int .i64 (j:Int)) rfl (fun K' h=>?_) rfl ?_
  ·conv=>whnf
   exact h
  refine ie rfl rfl ?_
  refine aj.call (gS++[(220, .old 5),(221, .old 221)]) (fF p q sch vars rows d1 0) 400 rfl (aa) (aa) s2 ?_
  rintro u M' ⟨rfl,rfl⟩
  refine⟨gS++[(5, .old 220),(221, .old 221)],fT p q sch vars rows++[(5, .box 161 [.row 221 vars.length 1, .int .i64 0]),(221, .row 3 0 al (vars.map d2))], .tup [],rfl,(aa),trivial,?_⟩
  simp only[mf,nC,cA,List.set]
  refine iG ?_
  refine f7 ?_
  refine f7 ?_
  refine e7 ?_
  apply EI (c:=p.fault=3)
  case h=>
   intro K0 a b
   conv=>whnf
   refine ae (fun h=>?_) (fun h=>?_)
   ·conv=>whnf
    exact a h
   ·conv=>whnf
    exact b h
  ·intro h3
   refine rn rfl ?_
   refine e7 ?_
   refine bv (.ptr 200 0) rfl (fun K' h=>?_) rfl ?_
   ·conv=>whnf
    exact h
   refine bv (.ptr 4 (0+1)) rfl (fun K' h=>?_) rfl ?_
   ·conv=>whnf
    exact h
   refine bv (.int .i64 g.coef) rfl (fun K' h=>?_) rfl ?_
   ·conv=>whnf
    exact h
   refine ie rfl rfl ?_
   refine aj.call (gS++[(220, .old 5),(221, .old 221)]) (fF p q sch vars rows d2 0) 400 rfl (aa) (aa) s3 ?_
   rintro u M' ⟨rfl,rfl⟩
   refine⟨gS++[(5, .old 220),(221, .old 221)],fT p q sch vars rows++[(5, .box 161 [.row 221 vars.length 1, .int .i64 0]),(221, .row 3 0 al (vars.map d3))], .tup [],rfl,(aa),trivial,?_⟩
   simp only[mf,nC,cA,List.set]
   refine iG ?_
   refine f7 ?_
   refine e7 ?_
   refine bv (.ptr 200 0) rfl (fun K' h=>?_) rfl ?_
   ·conv=>whnf
    exact h
   refine bv (.ptr 4 (0+2)) rfl (fun K' h=>?_) rfl ?_
   ·conv=>whnf
    exact h
   refine bv (.agg (cq g.bound)) rfl (fun K' h=>?_) rfl ?_
   ·conv=>whnf
    exact h
   refine ie rfl rfl ?_
   refine aj.call (gS++[(220, .old 5),(221, .old 221)]) (fF p q sch vars rows d3 0) 400 rfl (aa) (aa) l3 ?_
   rintro u M' ⟨rfl,rfl⟩
   refine⟨gS++[(5, .old 220),(221, .old 221)],fT p q sch vars rows++[(5, .box 161 [.row 221 vars.length 1, .int .i64 (-g.bound.c)]),(221, .row 3 0 al (vars.map e3))], .tup [],rfl,(aa),trivial,?_⟩
   simp only[mf,nC,cA,List.set]
   refine iG ?_
   conv=>whnf
   apply c5
   case k=>
    intro o1 o2 o3 o4 o5 o6
    refine mL [0,1,2,3,8,9] (by decide+kernel) ?_
    conv=>whnf
    repeat' first
     |exact True.intro
     |(refine And.intro ?_ ?_<;>conv=>whnf)
     |(refine bp ar aw [aQ vars (e3,-g.bound.c)] rfl ?_;conv=>whnf)
     |(refine bU ?_;conv=>whnf)
     |(refine bq [aQ vars (e3,-g.bound.c)] rfl (by clear o1 o2 o3 o4 o5 o6;simp only[List.length_cons,List.length_nil];omega) ?_;conv=>whnf)
     |with_reducible assumption
     |fail
   all_goals try first
    |exact True.intro
    |exact True
   all_goals
    exact aJ.sub (by rw[hR0 h1,gA h3];exact aH.by_ [(200, .old 200),(201, .old 201),(202, .old 69),(210, .old 210),(211, .old 211),(212, .old 212),(213, .old 213),(214, .old 214),(215, .old 215),(216, .old 216)] _ 400 rfl (aa) (aa)) hs0
  ·intro h3
   refine zw rfl ?_
   refine BD ?_
   refine f7 ?_
   refine e7 ?_
   refine bv (.ptr 200 0) rfl (fun K' h=>?_) rfl ?_
   ·conv=>whnf
    exact h
   refine bv (.ptr 4 (0+2)) rfl (fun K' h=>?_) rfl ?_
   ·conv=>whnf
    exact h
   refine bv (.agg (cq g.bound)) rfl (fun K' h=>?_) rfl ?_
   ·conv=>whnf
    exact h
   refine ie rfl rfl ?_
   refine aj.call (gS++[(220, .old 5),(221, .old 221)]) (fF p q sch vars rows d2 0) 400 rfl (aa) (aa) l2 ?_
   rintro u M' ⟨rfl,rfl⟩
   refine⟨gS++[(5, .old 220),(221, .old 221)],fT p q sch vars rows++[(5, .box 161 [.row 221 vars.length 1, .int .i64 (-g.bound.c)]),(221, .row 3 0 al (vars.map e2))], .tup [],rfl,(aa),trivial,?_⟩
   simp only[mf,nC,cA,List.set]
   refine iG ?_
   conv=>whnf
   apply c5
   case k=>
    intro o1 o2 o3 o4 o5 o6
    refine mL [0,1,2,3,8,9] (by decide+kernel) ?_
    conv=>whnf
    repeat' first
     |exact True.intro
     |(refine And.intro ?_ ?_<;>conv=>whnf)
     |(refine bp ar aw [aQ vars (e2,-g.bound.c)] rfl ?_;conv=>whnf)
     |(refine bU ?_;conv=>whnf)
     |(refine bq [aQ vars (e2,-g.bound.c)] rfl (by clear o1 o2 o3 o4 o5 o6;simp only[List.length_cons,List.length_nil];omega) ?_;conv=>whnf)
     |with_reducible assumption
     |fail
   all_goals try first
    |exact True.intro
    |exact True
   all_goals
    exact aJ.sub (by rw[hR0 h1,gB h3];exact aH.by_ [(200, .old 200),(201, .old 201),(202, .old 69),(210, .old 210),(211, .old 211),(212, .old 212),(213, .old 213),(214, .old 214),(215, .old 215),(216, .old 216)] _ 400 rfl (aa) (aa)) hs0
theorem Oz (p:av) (q:aP) (sch:List Int) (vars:List Vb) (rows:List aV) (hn:vars.Nodup) (hv:vars.length<=1000000) (hr:rows.length<=1000000) (hrl:p.rules.length<=1000) (hsl:sch.length<=10) (states:List Int) (hsts:states.length<=10000) (least:Int) (hls:0<=least/\least<=1000):
  aj Tryz.prog 198 [.ptr 200 0, .sl 0 al states, .int .i64 least] (ag.ofL (fT p q sch vars rows))
   (fun u M=>u= .tup []/\M=ag.ofL (px p q sch vars (rows++[aQ vars (uP p sch.length states least)]))):=by
 obtain⟨F,hF⟩:∃F:Nat->Co,F=fun x=>(states.take x).foldl (fun c x=>bo c 1 (dE p.rules 3 5 x (sch.length+1) 0)) zC:=⟨_,rfl⟩
 have hF0:F 0=zC:=by rw[hF];rfl
 have hFn:∀x,x<states.length->F (x+1)=bo (F x) 1 (dE p.rules 3 5 (states.getD (x:Int).toNat 0) (sch.length+1) 0):=fun x hx=>by
  rw[hF,tN]
  dsimp only
  rw[List.take_succ_eq_append_getElem hx,List.foldl_append,ap 0 hx]
  rfl
 have hFb:∀x,x<=states.length->ko (200*x) (F x):=by
  intro x
  induction x with
  |zero=>intro _;rw[hF0];exact lR (by omega)
  |succ x ih=>
   intro hx
   rw[hFn x (by omega)]
   exact aF (ic (ih (by omega)) (by unfold cd;omega) fun v=>by have:=Gt p.rules 3 5 (states.getD (x:Int).toNat 0) (sch.length+1) 0 v;omega) (by omega)
 have hend:uP p sch.length states least=(F states.length,0-least):=by
  rw[hF];dsimp only;rw[List.take_length,Int.zero_sub];rfl
 rw[hend]
 have hp:∀x,x<states.length->aj Tryz.prog 197 [.ptr 200 0, .ptr 220 0, .int .i64 1, .int .i64 3, .int .i64 5, .int .i64 (states.getD (x:Int).toNat 0), .int .i64 (sch.length:Int)] (ag.ofL (fF p q sch vars rows (F x) 0))
   (fun u M=>u= .tup []/\M=ag.ofL (fF p q sch vars rows (F (x+1)) 0)):=fun x hx=>by
  rw[hFn x hx]
  exact CT p q sch vars rows (F x) 0 hn hv 1 (states.getD (x:Int).toNat 0) 3 5 sch.length (by omega) (by omega) (by omega) hrl (aF (hFb x (by omega)) (by omega)) (by unfold cd;omega)
 clear hend hFn hFb hF
 refine aj.renorm 400 (R:=fun u M=>u= .tup []/\bG ((202, .old 38)::gS) 400 M (px p q sch vars (rows++[aQ vars (F states.length,0-least)]))) ?_ ?_
 case refine_2=>
  rintro u M ⟨rfl,hM⟩
  exact⟨(202, .old 38)::gS,_, .tup [],rfl,hM,trivial,rfl,rfl⟩
 refine aj.intro ab ac (fT p q sch vars rows) Tryz.func198 rfl (by decide) ?_
 conv=>whnf
 refine aj.call gS (fT p q sch vars rows) 400 rfl (aa) (aa) (BC p q sch vars rows hv) ?_
 rintro u M' ⟨rfl,rfl⟩
 refine⟨gS++[(221, .old 221)],fT p q sch vars rows++[(221, .row 3 0 al (vars.map zC))], .agg [.row 221 vars.length 1, .int .i64 0],rfl,(aa),(aa),?_⟩
 conv=>whnf
 refine aJ.loopF ab ac (fun x:Nat=>x<=states.length) (fun x=>[(13, .int .i64 (x:Int))]) (fun x=>fT p q sch vars rows++[(6, .box 161 [.row 221 vars.length 1, .int .i64 0]),(221, .row 3 0 al (vars.map (F x)))]) (fun x=>states.length-x) 0 (Nat.zero_le _) ?_;conv=>whnf
 refine⟨by rw[hF0];exact aH.by_ (gS++[(6, .old 6),(221, .old 221)]) _ 400 rfl (aa) (aa),?_⟩
 rintro x hx
 conv=>whnf
 refine ae ?_ ?_<;>(intro h1;conv=>whnf)
 ·have hp1:=hp x (by omega)
  repeat' first|refine dt ?_;conv=>whnf|fail
  refine aj.call (gS++[(220, .old 6),(221, .old 221)]) (fF p q sch vars rows (F x) 0) 400 rfl (aa) (aa) hp1 ?_
  rintro u M' ⟨rfl,rfl⟩
  refine⟨gS++[(6, .old 220),(221, .old 221)],fT p q sch vars rows++[(6, .box 161 [.row 221 vars.length 1, .int .i64 0]),(221, .row 3 0 al (vars.map (F (x+1))))], .tup [],rfl,(aa),trivial,?_⟩
  conv=>whnf
  repeat' first|refine dt ?_;conv=>whnf|fail
  refine⟨x+1,?_,by omega,by dsimp only;omega⟩
  exact aH.by_ (gS++[(6, .old 6),(221, .old 221)]) _ 400 rfl (aa) (aa)
 ·obtain rfl:x=states.length:=by omega
  repeat' first|refine dt ?_;conv=>whnf|fail
  as_aux_lemma=>
  refine mL [0,1,2,3,8,9] (by decide+kernel) ?_
  conv=>whnf
  repeat' first
   |exact True.intro
   |(refine And.intro ?_ ?_<;>conv=>whnf)
   |(refine bp ar aw [aQ vars (F states.length,0-least)] rfl ?_;conv=>whnf)
   |(refine bU ?_;conv=>whnf)
   |(refine bq [aQ vars (F states.length,0-least)] rfl lI ?_;conv=>whnf)
   |exact rfl
   |exact(List.length_append ..).symm
   |fail
theorem P1 (p:av) (q:aP) (sch:List Int) (vars:List Vb) (rows:List aV) (hn:vars.Nodup) (hv:vars.length<=1000000) (hr:rows.length<=1000000) (hrl:p.rules.length<=1000) (hsd:∀i,i<p.rules.length->(p.rules.getD i ax).send.length<=1000000) (hsl:sch.length<=9)
  (i:Nat) (hi:i<p.rules.length) (hg:∀g∈(p.rules.getD i ax).guards,(1<=g.coef/\g.coef<=100)/\eY g.bound) (hgl:(p.rules.getD i ax).guards.length<=1000) (ch:Int) (hc:0<=ch/\ch<=(p.rules.getD i ax).guards.length):
  aj Tryz.prog 200 [.ptr 200 0, .int .i64 (i:Int), .int .i64 ch] (ag.ofL (fT p q sch vars rows))
   (fun u M=>u= .tup []/\M=ag.ofL (px p q sch vars (rows++[aQ vars (rF p sch.length (p.rules.getD i ax) ch)]))):=by
 have z1:ko 1099511627776 zC:=lR (by omega)
 refine aj.renorm 400 (R:=fun u M=>u= .tup []/\bG ((202, .old 97)::gS) 400 M (px p q sch vars (rows++[aQ vars (rF p sch.length (p.rules.getD i ax) ch)]))) ?_ ?_
 case refine_2=>
  rintro u M ⟨rfl,hM⟩
  exact⟨(202, .old 97)::gS,_, .tup [],rfl,hM,trivial,rfl,rfl⟩
 refine aj.intro ab ac (fT p q sch vars rows) Tryz.func200 rfl (by decide) ?_
 conv=>whnf
 refine aj.call gS (fT p q sch vars rows) 400 rfl (aa) (aa) (BC p q sch vars rows hv) ?_
 rintro u M' ⟨rfl,rfl⟩
 refine⟨gS++[(221, .old 221)],fT p q sch vars rows++[(221, .row 3 0 al (vars.map zC))], .agg [.row 221 vars.length 1, .int .i64 0],rfl,(aa),(aa),?_⟩
 conv=>whnf
 refine ae ?_ ?_<;>(intro h1;conv=>whnf)
 ·subst h1
  have hp:=CT p q sch vars rows zC 0 hn hv (-1) (p.rules.getD (i:Int).toNat ax).src 3 5 sch.length (by omega) (by omega) (by omega) hrl z1 (by unfold cd;omega)
  have e:rF p sch.length (p.rules.getD i ax) 0=(bo zC (-1) (dE p.rules 3 5 (p.rules.getD (i:Int).toNat ax).src (sch.length+1) 0),0):=by unfold rF;rw[if_pos rfl,tN]
  rw[e]
  generalize bo zC (-1) (dE p.rules 3 5 (p.rules.getD (i:Int).toNat ax).src (sch.length+1) 0)=d at*
  clear e
  refine rc .any [30] (by decide+kernel) ?_
  conv=>whnf
  repeat' first|refine dt ?_;conv=>whnf|fail
  refine aj.call (gS++[(220, .old 6),(221, .old 221)]) (fF p q sch vars rows zC 0) 400 rfl (aa) (aa) hp ?_
  rintro u M' ⟨rfl,rfl⟩
  refine⟨gS++[(6, .old 220),(221, .old 221)],fT p q sch vars rows++[(6, .box 161 [.row 221 vars.length 1, .int .i64 0]),(221, .row 3 0 al (vars.map d))], .tup [],rfl,(aa),trivial,?_⟩
  conv=>whnf
  repeat' first|refine dt ?_;conv=>whnf|fail
  as_aux_lemma=>
  refine mL [0,1,2,3,8,9] (by decide+kernel) ?_
  conv=>whnf
  repeat' first
   |exact True.intro
   |(refine And.intro ?_ ?_<;>conv=>whnf)
   |(refine bp ar aw [aQ vars (d,0)] rfl ?_;conv=>whnf)
   |(refine bU ?_;conv=>whnf)
   |(refine bq [aQ vars (d,0)] rfl lI ?_;conv=>whnf)
   |exact rfl
   |exact(List.length_append ..).symm
   |fail
 ·repeat' first|refine dt ?_;conv=>whnf|fail
  have hgm:=hg _ (bu (l:=(p.rules.getD i ax).guards) (k:=(ch-1).toNat) aM (by omega))
  have e0:=rF.eq_1 p sch.length (p.rules.getD i ax) ch
  rw[if_neg h1] at e0
  rw[e0]
  clear e0
  rw[tN]
  dsimp only
  generalize (p.rules.getD i ax).guards.getD (ch-1).toNat aM=g at hgm⊢
  repeat' first|refine dt ?_;conv=>whnf|fail
  obtain⟨hgc,hgb⟩:=hgm
  have s1:=CU p q sch vars rows zC 0 hn hv (-g.coef) g.message 5 (sch.length+1) (by omega) (by omega) hrl hsd z1 (by unfold cd;omega)
  have c1:ko 1000 (bo zC (-g.coef) (c7 p.rules 5 g.message (sch.length+1) 0)):=aF (ic (lR (X:=0) (by omega)) (by unfold cd;omega) fun v=>by have:=vP p.rules 5 g.message (sch.length+1) 0 v;omega) (by omega)
  have s2:=CU p q sch vars rows _ 0 hn hv (-g.coef) g.message 6 (sch.length+1) (by omega) (by omega) hrl hsd (aF c1 (by omega)) (by unfold cd;omega)
  have c2:ko 2000 (bo (bo zC (-g.coef) (c7 p.rules 5 g.message (sch.length+1) 0)) (-g.coef) (c7 p.rules 6 g.message (sch.length+1) 0)):=aF (ic c1 (by unfold cd;omega) fun v=>by have:=vP p.rules 6 g.message (sch.length+1) 0 v;omega) (by omega)
  have l1:=EG p q sch vars rows _ 0 hn hv 1 g.bound (aF c1 (by omega)) (by omega) (by unfold cd;omega) hgb
  have l2:=EG p q sch vars rows _ 0 hn hv 1 g.bound (aF c2 (by omega)) (by omega) (by unfold cd;omega) hgb
  rw[show(0:Int)+1*g.bound.c=g.bound.c by omega] at l1 l2
  clear c1 c2
  generalize bo zC (-g.coef) (c7 p.rules 5 g.message (sch.length+1) 0)=d1 at*
  generalize bo d1 (-g.coef) (c7 p.rules 6 g.message (sch.length+1) 0)=d2 at*
  have hgc2:=hgb.1
  unfold cd at hgc2
  refine rc .any [59] (by decide+kernel) ?_
  conv=>whnf
  repeat' first|refine dt ?_;conv=>whnf|fail
  refine aj.call (gS++[(220, .old 6),(221, .old 221)]) (fF p q sch vars rows zC 0) 400 rfl (aa) (aa) s1 ?_
  rintro u M' ⟨rfl,rfl⟩
  refine⟨gS++[(6, .old 220),(221, .old 221)],fT p q sch vars rows++[(6, .box 161 [.row 221 vars.length 1, .int .i64 0]),(221, .row 3 0 al (vars.map d1))], .tup [],rfl,(aa),trivial,?_⟩
  conv=>whnf
  refine ae ?_ ?_<;>(intro h3;conv=>whnf)
  ·simp only[if_pos h3]
   generalize bo d2 1 (bH g.bound)=e2 at*
   refine rc .any [81] (by decide+kernel) ?_
   conv=>whnf
   repeat' first|refine dt ?_;conv=>whnf|fail
   refine aj.call (gS++[(220, .old 6),(221, .old 221)]) (fF p q sch vars rows d1 0) 400 rfl (aa) (aa) s2 ?_
   rintro u M' ⟨rfl,rfl⟩
   refine⟨gS++[(6, .old 220),(221, .old 221)],fT p q sch vars rows++[(6, .box 161 [.row 221 vars.length 1, .int .i64 0]),(221, .row 3 0 al (vars.map d2))], .tup [],rfl,(aa),trivial,?_⟩
   conv=>whnf
   refine aj.call (gS++[(220, .old 6),(221, .old 221)]) (fF p q sch vars rows d2 0) 400 rfl (aa) (aa) l2 ?_
   rintro u M' ⟨rfl,rfl⟩
   refine⟨gS++[(6, .old 220),(221, .old 221)],fT p q sch vars rows++[(6, .box 161 [.row 221 vars.length 1, .int .i64 g.bound.c]),(221, .row 3 0 al (vars.map e2))], .tup [],rfl,(aa),trivial,?_⟩
   conv=>whnf
   repeat' first|refine dt ?_;conv=>whnf|fail
   as_aux_lemma=>
   refine mL [0,1,2,3,8,9] (by decide+kernel) ?_
   conv=>whnf
   repeat' first
    |exact True.intro
    |(refine And.intro ?_ ?_<;>conv=>whnf)
    |(refine bp ar aw [aQ vars (e2,g.bound.c-1)] rfl ?_;conv=>whnf)
    |(refine bU ?_;conv=>whnf)
    |(refine bq [aQ vars (e2,g.bound.c-1)] rfl lI ?_;conv=>whnf)
    |exact rfl
    |exact(List.length_append ..).symm
    |fail
  ·simp only[if_neg h3]
   generalize bo d1 1 (bH g.bound)=e2 at*
   refine aj.call (gS++[(220, .old 6),(221, .old 221)]) (fF p q sch vars rows d1 0) 400 rfl (aa) (aa) l1 ?_
   rintro u M' ⟨rfl,rfl⟩
   refine⟨gS++[(6, .old 220),(221, .old 221)],fT p q sch vars rows++[(6, .box 161 [.row 221 vars.length 1, .int .i64 g.bound.c]),(221, .row 3 0 al (vars.map e2))], .tup [],rfl,(aa),trivial,?_⟩
   conv=>whnf
   repeat' first|refine dt ?_;conv=>whnf|fail
   as_aux_lemma=>
   refine mL [0,1,2,3,8,9] (by decide+kernel) ?_
   conv=>whnf
   repeat' first
    |exact True.intro
    |(refine And.intro ?_ ?_<;>conv=>whnf)
    |(refine bp ar aw [aQ vars (e2,g.bound.c-1)] rfl ?_;conv=>whnf)
    |(refine bU ?_;conv=>whnf)
    |(refine bq [aQ vars (e2,g.bound.c-1)] rfl lI ?_;conv=>whnf)
    |exact rfl
    |exact(List.length_append ..).symm
    |fail
end Go.Proofs.YtekmminpfhacpaaGreatDoor
