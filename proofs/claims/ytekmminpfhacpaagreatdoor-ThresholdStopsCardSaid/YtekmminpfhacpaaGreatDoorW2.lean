import Derived.Test.YtekmminpfhacpaaGreatDoorW1
set_option linter.unusedVariables false
set_option linter.unusedSimpArgs false
namespace Go.Proofs.YtekmminpfhacpaaGreatDoor
set_option maxRecDepth 100000
set_option maxHeartbeats 16000000
def HZ:cR:=[(200, .old 200),(201, .old 201),(202, .old 201),(210, .old 210),(211, .old 211),(212, .old 212),(213, .old 213),(214, .old 214),(215, .old 215),(216, .old 216)]
def rP:cR:=[(200, .old 200),(201, .old 201),(202, .old 202),(210, .old 210),(211, .old 211),(212, .old 212),(213, .old 213),(214, .old 214),(215, .old 215),(216, .old 216)]
def A9:cR:=[(200, .old 200),(201, .old 202),(210, .old 210),(211, .old 211),(212, .old 212),(213, .old 213),(214, .old 214),(215, .old 215),(216, .old 216)]
def FE:cR:=[(200, .old 200),(202, .old 201),(210, .old 210),(211, .old 211),(212, .old 212),(213, .old 213),(214, .old 214),(215, .old 215),(216, .old 216)]
noncomputable abbrev FF (lr:Nat) (p:an) (q:aE) (sch:List Int) (vars:List Vb) (rows:List eN):List (Nat×bP):=
 [(200, .box 156 (En p q sch vars.length lr rows.length)),(lr, .row 161 eZ d6 rows),(210,eQ vars 0),(211,eQ vars 1),(212,eQ vars 2),(213,eQ vars 3),(214,eQ vars 4),(215,eQ vars 5),(216,eQ vars 6)]
theorem once {A B:Prop} (h:A) (k:A->B):B:=k h
theorem gS {A1 A2 A3 A4 A5 A6 B:Prop} (k:A1->A2->A3->A4->A5->A6->B) (h1:A1) (h2:A2) (h3:A3) (h4:A4) (h5:A5) (h6:A6):B:=k h1 h2 h3 h4 h5 h6
theorem Di (kind:Int) (c:Co) (k:Int):ce c k (tG kind 0)=c:=by
 funext v
 have h:¬(v.kind=kind/\v.seg=0/\0<=v.idx/\v.idx<(0:Nat)):=by omega
 unfold ce tG
 rw[if_neg h];omega
theorem H0 (kind:Int) (n:Nat) (v:Vb):-2<=tG kind n v/\tG kind n v<=2:=by
 unfold tG
 split<;>omega
theorem qB {X:Int} (h:0<=X):oV X zC:=fun v=>by unfold zC;omega
theorem G' (x:Nat) (hx:x<2):-1<=([1,-1]:List Int).getD (x:Int).toNat 0/\([1,-1]:List Int).getD (x:Int).toNat 0<=1:=by
 obtain rfl|rfl:x=0\/x=1:=by omega
 ·decide
 ·decide
theorem H1 (p:an) (q:aE) (sch:List Int) (vars:List Vb) (rows:List eN) (hn:vars.Nodup) (hv:vars.length<=1000000) (hr:rows.length<=1000000) (hs:p.states.length<=1000) (kind:Int) (hk:0<=kind/\kind<7) (l:kK) (hl:eD l):
  am Tryz.prog 107 [.ptr 200 0, .int .i64 kind, .agg (bT l)] (aj.ofL (dG p q sch vars rows))
   (fun u M=>u= .tup []/\M=aj.ofL (lG p q sch vars (rows++[cL vars (i3 kind p.states.length 1 l),cL vars (i3 kind p.states.length (-1) l)]))):=by
 have hF0:∀k,ce zC k (tG kind 0)=zC:=fun k=>Di kind zC k
 have hFn:∀k i,ce zC k (tG kind (i+1))=da (ce zC k (tG kind i)) ⟨kind,0,i⟩ k:=fun k i=>C1 kind i zC k
 have hFb:∀k i,cB k->oV 1000 (ce zC k (tG kind i)):=fun k i h=>aV (jI (qB (X:=0) (by omega)) h (H0 kind i)) (by omega)
 have hsta:∀k,i3 kind p.states.length k l=(ce (ce zC k (tG kind p.states.length)) (-k) (iu l),-k*l.c):=fun k=>rfl
 obtain⟨F,hF⟩:∃F:Int->Nat->Co,F=fun k i=>ce zC k (tG kind i):=⟨_,rfl⟩
 have e0:∀k i,ce zC k (tG kind i)=F k i:=fun k i=>by rw[hF]
 simp only[e0] at hF0 hFn hFb hsta
 clear e0 hF
 obtain⟨G,hG⟩:∃G:Int->Co,G=fun k=>ce (F k p.states.length) (-k) (iu l):=⟨_,rfl⟩
 have hadd:∀rs k (i:Nat),cB k->am Tryz.prog 195 [.ptr 200 0, .ptr 220 0, .int .i64 k, .int .i64 kind, .int .i64 0, .int .i64 (i:Int)] (aj.ofL (dv p q sch vars rs (F k i) 0))
   (fun u M=>u= .tup []/\M=aj.ofL (dv p q sch vars rs (F k (i+1)) 0)):=fun rs k i h=>by
  have h':-100<=k/\k<=100:=h
  rw[hFn k i]
  exact Dg p q sch vars rs (F k i) 0 hn hv kind hk 0 i k (aV (hFb k i h) (by omega)) (by omega)
 have hlin:∀rs k,cB k->am Tryz.prog 194 [.ptr 200 0, .ptr 220 0, .int .i64 (-k), .agg (bT l)] (aj.ofL (dv p q sch vars rs (F k p.states.length) 0))
   (fun u M=>u= .tup []/\M=aj.ofL (dv p q sch vars rs (G k) (-k*l.c))):=fun rs k h=>by
  have h':-100<=k/\k<=100:=h
  have a:=x8 p q sch vars rs (F k p.states.length) 0 hn hv (-k) l (aV (hFb k _ h) (by omega)) (by omega) (by unfold cB;omega) hl
  rw[Int.zero_add] at a
  rw[hG]
  exact a
 simp only[hsta]
 have hG':∀k,ce (F k p.states.length) (-k) (iu l)=G k:=fun k=>by rw[hG]
 simp only[hG']
 clear hsta hG hG'
 obtain⟨R,hR⟩:∃R:Nat->List eN,R=fun x=>rows++[cL vars (G 1,-1*l.c),cL vars (G (-1),-(-1)*l.c)].take x:=⟨_,rfl⟩
 have hR0:R 0=rows:=by rw[hR];simp
 have hR2:rows++[cL vars (G 1,-1*l.c),cL vars (G (-1),-(-1)*l.c)]=R 2:=by rw[hR];rfl
 have hRn:∀x,x<2->R (x+1)=R x++[cL vars (G (([1,-1]:List Int).getD (x:Int).toNat 0),-(([1,-1]:List Int).getD (x:Int).toNat 0)*l.c)]:=fun x hx=>by
  obtain rfl|rfl:x=0\/x=1:=by omega
  ·rw[hR];simp
  ·rw[hR];simp
 have hRl:∀x,(R x).length<=1000002:=fun x=>by
  rw[hR];simp only[List.length_append,List.length_take,List.length_cons,List.length_nil];omega
 rw[hR2]
 subst hR0
 clear hR hR2
 refine am.renorm 400 (R:=fun u M=>u= .tup []/\dc rP 400 M (lG p q sch vars (R 2))) ?_ ?_
 case refine_2=>
  rintro u M ⟨rfl,hM⟩
  exact⟨rP,_, .tup [],rfl,hM,trivial,rfl,rfl⟩
 refine am.intro ac ae (dG p q sch vars (R 0)) Tryz.func107 rfl (by decide) ?_
 simp only[gJ]
 rw[show Tryz.f107.ntmps=52 from rfl]
 simp only[ct]
 simp only[df]
 rw[bA]
 simp only[gv,aM,List.map_cons,List.map_nil,aY]
 conv=>whnf
 refine ak rfl ?_
 conv=>whnf
 refine aF.loopF ac ae (fun x:Nat=>x<=2) (fun x=>[(12, .int .i64 (x:Int))]) (fun x=>lG p q sch vars (R x)++[(10, .row 3 0 ao [1,-1])]) (fun x=>2-x) 0 (Nat.zero_le _) ?_;conv=>whnf
 refine⟨aR.by_ (HZ++[(10, .old 10)]) _ 400 rfl (aa) (aa),?_⟩
 rintro x hx
 conv=>whnf
 refine ag ?_ ?_<;>(intro h1;conv=>whnf)
 ·have hfl:=G' x (by omega)
  have hRn1:=hRn x (by omega)
  have hRl1:=hRl x
  repeat' ((first|refine nI ?_|refine aI ?_|refine tI ?_|refine fI ?_|fail);conv=>whnf)
  generalize ([1,-1]:List Int).getD (x:Int).toNat 0=k at*
  have hkf:cB k:=by unfold cB;omega
  refine am.call A9 (dG p q sch vars (R x)) 400 rfl (aa) (aa) (vy p q sch vars (R x) hv) ?_
  rintro u M' ⟨rfl,rfl⟩
  refine⟨FE++[(221, .old 221)],FF 202 p q sch vars (R x)++[(221, .row 3 0 ao (vars.map zC))], .agg [.row 221 vars.length 1, .int .i64 0],rfl,(aa),(aa),?_⟩
  conv=>whnf
  refine aF.loopF ac ae (fun i:Nat=>i<=p.states.length) (fun i=>[(27, .int .i64 (i:Int))]) (fun i=>lG p q sch vars (R x)++[(10, .row 3 0 ao [1,-1]),(8, .box 161 [.row 221 vars.length 1, .int .i64 0]),(221, .row 3 0 ao (vars.map (F k i)))]) (fun i=>p.states.length-i) 0 (Nat.zero_le _) ?_;conv=>whnf
  refine⟨by rw[hF0 k];exact aR.by_ (rP++[(10, .old 10),(8, .old 8),(221, .old 221)]) _ 400 rfl (aa) (aa),?_⟩
  rintro i hi
  conv=>whnf
  refine ag ?_ ?_<;>(intro h2;conv=>whnf)
  ·repeat' ((first|refine nI ?_|refine aI ?_|refine tI ?_|refine fI ?_|fail);conv=>whnf)
   refine am.call (A9++[(220, .old 8),(221, .old 221)]) (dv p q sch vars (R x) (F k i) 0) 400 rfl (aa) (aa) (hadd (R x) k i hkf) ?_
   rintro u M' ⟨rfl,rfl⟩
   refine⟨FE++[(8, .old 220),(221, .old 221)],FF 202 p q sch vars (R x)++[(8, .box 161 [.row 221 vars.length 1, .int .i64 0]),(221, .row 3 0 ao (vars.map (F k (i+1))))], .tup [],rfl,(aa),trivial,?_⟩
   conv=>whnf
   repeat' ((first|refine nI ?_|refine aI ?_|refine tI ?_|refine fI ?_|fail);conv=>whnf)
   refine⟨i+1,?_,by omega,by dsimp only;omega⟩
   exact aR.by_ (rP++[(10, .old 10),(8, .old 8),(221, .old 221)]) _ 400 rfl (aa) (aa)
  ·obtain rfl:i=p.states.length:=by omega
   repeat' ((first|refine nI ?_|refine aI ?_|refine tI ?_|refine fI ?_|fail);conv=>whnf)
   refine am.call (A9++[(220, .old 8),(221, .old 221)]) (dv p q sch vars (R x) (F k p.states.length) 0) 400 rfl (aa) (aa) (hlin (R x) k hkf) ?_
   rintro u M' ⟨rfl,rfl⟩
   refine⟨FE++[(8, .old 220),(221, .old 221)],FF 202 p q sch vars (R x)++[(8, .box 161 [.row 221 vars.length 1, .int .i64 (-k*l.c)]),(221, .row 3 0 ao (vars.map (G k)))], .tup [],rfl,(aa),trivial,?_⟩
   conv=>whnf
   apply gS
   case k=>
    intro o1 o2 o3 o4 o5 o6
    refine jJ [0,1,2,3,8,9] (by decide+kernel) ?_
    conv=>whnf
    repeat' first
     |exact True.intro
     |(refine And.intro ?_ ?_<;>conv=>whnf)
     |(refine bD eZ d6 [cL vars (G k,-k*l.c)] rfl ?_;conv=>whnf)
     |(refine fu ?_;conv=>whnf)
     |(refine bQ [cL vars (G k,-k*l.c)] rfl (by clear o1 o2 o3 o4 o5 o6;simp only[List.length_cons,List.length_nil];omega) ?_;conv=>whnf)
     |with_reducible exact o1
     |with_reducible exact o2
     |with_reducible exact o3
     |with_reducible exact o4
     |with_reducible exact o5
     |with_reducible exact o6
     |fail
   all_goals try first
    |exact True.intro
    |exact True
   all_goals
    repeat' ((first|refine nI ?_|refine aI ?_|refine tI ?_|refine fI ?_|fail);conv=>whnf)
    refine⟨x+1,?_,by omega,by dsimp only;omega⟩
    dsimp only
    rw[hRn1]
    exact aR.by_ [(200, .old 200),(201, .old 201),(202, .old 48),(210, .old 210),(211, .old 211),(212, .old 212),(213, .old 213),(214, .old 214),(215, .old 215),(216, .old 216),(10, .old 10)] _ 400 rfl (aa) (aa)
 ·obtain rfl:x=2:=by omega
  exact⟨rfl,(aa)⟩
def H5:Option Code->Code
 |some (.seq _ (.seq (.seq _ b) r))=>.seq b r
 |_=>.skip
theorem H6 (p:an) (q:aE) (sch:List Int) (vars:List Vb) (rows:List eN) (hv:vars.length<=1000000) (hr:rows.length<=100000) (hst:p.states.length<=1000) (A B:Nat->Co) (R Q:Nat->List eN) (j:Nat)
  (hAp:∀rs (x:Nat),am Tryz.prog 197 [.ptr 200 0, .ptr 220 0, .int .i64 1, .int .i64 3, .int .i64 5, .int .i64 (x:Int), .int .i64 (j:Int)] (aj.ofL (dv p q sch vars rs zC 0))
   (fun u M=>u= .tup []/\M=aj.ofL (dv p q sch vars rs (A x) 0)))
  (hBp:∀rs (x:Nat),am Tryz.prog 197 [.ptr 200 0, .ptr 220 0, .int .i64 1, .int .i64 4, .int .i64 6, .int .i64 (x:Int), .int .i64 (j:Int)] (aj.ofL (dv p q sch vars rs zC 0))
   (fun u M=>u= .tup []/\M=aj.ofL (dv p q sch vars rs (B x) 0)))
  (hRn:∀x,R (x+1)=R x++[cL vars (A x,0)]) (hQ0:Q 0=R p.states.length) (hQn:∀x,Q (x+1)=Q x++[cL vars (B x,0)])
  (hRl:∀x,x<=p.states.length->(R x).length<=102000) (hQl:∀x,x<=p.states.length->(Q x).length<=104000):
  ct Tryz.prog tt ((dG p q sch vars rows).map (·.1)) (H5 Tryz.f109.body) ([.ptr 200 0, .int .i64 (j:Int)]++List.replicate 78 .top++[.int .i64 (p.states.length:Int), .int .i64 0]++List.replicate 54 .top) (aj.ofL (lG p q sch vars (R 0)))
   (EO tt Tryz.f109.results.toList (fun u M=>u= .tup []/\dc rP 400 M (lG p q sch vars (if pA p then Q p.states.length else R p.states.length)))):=by
 (conv=>whnf)
 refine aF.loopF ac ae (fun x:Nat=>x<=p.states.length) (fun x=>[(81, .int .i64 (x:Int))]) (fun x=>lG p q sch vars (R x)) (fun x=>p.states.length-x) 0 (Nat.zero_le _) ?_;conv=>whnf
 refine⟨aR.by_ rP _ 400 rfl (aa) (aa),?_⟩
 rintro x hx
 conv=>whnf
 refine ag ?_ ?_<;>(intro h2;conv=>whnf)
 ·as_aux_lemma=>
  have hl1:=hRl x (by omega)
  have hR1:=hRn x
  repeat' ((first|refine nI ?_|refine aI ?_|refine tI ?_|refine fI ?_|fail);conv=>whnf)
  refine am.call A9 (dG p q sch vars (R x)) 400 rfl (aa) (aa) (vy p q sch vars (R x) hv) ?_
  rintro u M' ⟨rfl,rfl⟩
  refine⟨FE++[(221, .old 221)],FF 202 p q sch vars (R x)++[(221, .row 3 0 ao (vars.map zC))], .agg [.row 221 vars.length 1, .int .i64 0],rfl,(aa),(aa),?_⟩
  conv=>whnf
  refine am.call (A9++[(220, .old 7),(221, .old 221)]) (dv p q sch vars (R x) zC 0) 400 rfl (aa) (aa) (hAp (R x) x) ?_
  rintro u M' ⟨rfl,rfl⟩
  refine⟨FE++[(7, .old 220),(221, .old 221)],FF 202 p q sch vars (R x)++[(7, .box 161 [.row 221 vars.length 1, .int .i64 0]),(221, .row 3 0 ao (vars.map (A x)))], .tup [],rfl,(aa),trivial,?_⟩
  conv=>whnf
  apply gS
  case k=>
   intro o1 o2 o3 o4 o5 o6
   refine jJ [0,1,2,3,8,9] (by decide+kernel) ?_
   conv=>whnf
   repeat' first
    |exact True.intro
    |(refine And.intro ?_ ?_<;>conv=>whnf)
    |(refine bD eZ d6 [cL vars (A x,0)] rfl ?_;conv=>whnf)
    |(refine fu ?_;conv=>whnf)
    |(refine bQ [cL vars (A x,0)] rfl (by clear o1 o2 o3 o4 o5 o6;simp only[List.length_cons,List.length_nil];omega) ?_;conv=>whnf)
    |with_reducible exact o1
    |with_reducible exact o2
    |with_reducible exact o3
    |with_reducible exact o4
    |with_reducible exact o5
    |with_reducible exact o6
    |fail
  all_goals try first
   |exact True.intro
   |exact True
  all_goals
   repeat' ((first|refine nI ?_|refine aI ?_|refine tI ?_|refine fI ?_|fail);conv=>whnf)
   refine⟨x+1,?_,by omega,by dsimp only;omega⟩
   dsimp only
   rw[hR1]
   exact aR.by_ [(200, .old 200),(201, .old 201),(202, .old 97),(210, .old 210),(211, .old 211),(212, .old 212),(213, .old 213),(214, .old 214),(215, .old 215),(216, .old 216)] _ 400 rfl (aa) (aa)
 ·obtain rfl:x=p.states.length:=by omega
  refine dC (gn p q) (fun _=>?_) (fun _=>?_)<;>(conv=>whnf)
  ·rename_i hw
   rw[if_pos hw]
   refine aF.loopF ac ae (fun x:Nat=>x<=p.states.length) (fun x=>[(116, .int .i64 (x:Int))]) (fun x=>lG p q sch vars (Q x)) (fun x=>p.states.length-x) 0 (Nat.zero_le _) ?_;conv=>whnf
   refine⟨by rw[hQ0];exact aR.by_ rP _ 400 rfl (aa) (aa),?_⟩
   rintro x hx
   conv=>whnf
   refine ag ?_ ?_<;>(intro h2;conv=>whnf)
   ·as_aux_lemma=>
    have hl1:=hQl x (by omega)
    have hR1:=hQn x
    repeat' ((first|refine nI ?_|refine aI ?_|refine tI ?_|refine fI ?_|fail);conv=>whnf)
    refine am.call A9 (dG p q sch vars (Q x)) 400 rfl (aa) (aa) (vy p q sch vars (Q x) hv) ?_
    rintro u M' ⟨rfl,rfl⟩
    refine⟨FE++[(221, .old 221)],FF 202 p q sch vars (Q x)++[(221, .row 3 0 ao (vars.map zC))], .agg [.row 221 vars.length 1, .int .i64 0],rfl,(aa),(aa),?_⟩
    conv=>whnf
    refine am.call (A9++[(220, .old 9),(221, .old 221)]) (dv p q sch vars (Q x) zC 0) 400 rfl (aa) (aa) (hBp (Q x) x) ?_
    rintro u M' ⟨rfl,rfl⟩
    refine⟨FE++[(9, .old 220),(221, .old 221)],FF 202 p q sch vars (Q x)++[(9, .box 161 [.row 221 vars.length 1, .int .i64 0]),(221, .row 3 0 ao (vars.map (B x)))], .tup [],rfl,(aa),trivial,?_⟩
    conv=>whnf
    apply gS
    case k=>
     intro o1 o2 o3 o4 o5 o6
     refine jJ [0,1,2,3,8,9] (by decide+kernel) ?_
     conv=>whnf
     repeat' first
      |exact True.intro
      |(refine And.intro ?_ ?_<;>conv=>whnf)
      |(refine bD eZ d6 [cL vars (B x,0)] rfl ?_;conv=>whnf)
      |(refine fu ?_;conv=>whnf)
      |(refine bQ [cL vars (B x,0)] rfl (by clear o1 o2 o3 o4 o5 o6;simp only[List.length_cons,List.length_nil];omega) ?_;conv=>whnf)
      |with_reducible exact o1
      |with_reducible exact o2
      |with_reducible exact o3
      |with_reducible exact o4
      |with_reducible exact o5
      |with_reducible exact o6
      |fail
    all_goals try first
     |exact True.intro
     |exact True
    all_goals
     repeat' ((first|refine nI ?_|refine aI ?_|refine tI ?_|refine fI ?_|fail);conv=>whnf)
     refine⟨x+1,?_,by omega,by dsimp only;omega⟩
     dsimp only
     rw[hR1]
     exact aR.by_ [(200, .old 200),(201, .old 201),(202, .old 132),(210, .old 210),(211, .old 211),(212, .old 212),(213, .old 213),(214, .old 214),(215, .old 215),(216, .old 216)] _ 400 rfl (aa) (aa)
   ·obtain rfl:x=p.states.length:=by omega
    exact⟨rfl,(aa)⟩
  ·rename_i hw
   rw[if_neg hw]
   exact⟨rfl,(aa)⟩
theorem aN {P:Program} {tt:TT} {draw:Option aD} {all r:List Oper} {o:Oper} {fr fr':List AV} {M:aj} {K:List AV->aj->Prop} (u:AV) (hg:o.guard=none)
  (h:∀K':AV->aj->Prop,K' u M->aY P tt draw o ((aM o.op).map (c6 fr)) M K') (e:bZ fr o.dst u=fr') (hk:df P tt draw all r fr' M K):df P tt draw all (o::r) fr M K:=by
 subst e
 simp only[df]
 rw[bA]
 rw[hg]
 simp only[gv]
 exact h _ hk
theorem fe {P:Program} {tt:TT} {all r:List Oper} {fr:List AV} {M:aj} {K:List AV->aj->Prop} {d:Option Tmp} {a:Operand} {xs:Array Operand} {ts:Array TypeId} {ty:TypeId} {ps:String} {af:Array Edge} {f:FuncId} {caps us:List AV}
  (ha:c6 fr a= .fn f caps) (hs:xs.toList.map (c6 fr)=us) (h:am P f (us++caps) M fun u M'=>jo fr d u fun fr'=>df P tt none all r fr' M' K):
  df P tt none all ({dst:=d,op:=.call {callee:=.value a,args:=xs,argTypes:=ts},type:=ty,pos:=ps,after:=af,guard:=none}::r) fr M K:=by
 subst hs
 simp only[df]
 rw[bA]
 simp only[gv,aM,List.map_cons,ha,aY,k7]
 simp only[dA] at h
 exact h
theorem fA {P:Program} {tt:TT} {draw:Option aD} {all:List Oper} {fr:List AV} {M:aj} {K:List AV->aj->Prop} (h:K fr M):df P tt draw all [] fr M K:=h
theorem dW {P:Program} {tt:TT} {D:List Nat} {a b:Code} {fr:List AV} {M:aj} {Q:ez} (h:ct P tt D a fr M fun e fr' M'=>match e with
  |.normal=>ct P tt D b fr' M' Q
  |.exit i=>Q (.exit i) fr' M'
  |.ret=>Q .ret fr' M'):ct P tt D (.seq a b) fr M Q:=h
theorem db {P:Program} {tt:TT} {D:List Nat} {id:Nat} {ops:Array Oper} {fr:List AV} {M:aj} {Q:ez} (h:df P tt none ops.toList ops.toList fr M (Q .normal)):ct P tt D (.region id ops false) fr M Q:=h
theorem A' {P:Program} {tt:TT} {draw:Option aD} {all r:List Oper} {fr frX:List AV} {M MX:aj} {K:List AV->aj->Prop} (h:∀K0:List AV->aj->Prop,K0 frX MX->df P tt draw all r fr M K0) (hk:K frX MX):df P tt draw all r fr M K:=h K hk
theorem yb {P:Program} {tt:TT} {draw:Option aD} {all r:List Oper} {fr fr1 fr2:List AV} {M M1 M2:aj} {K:List AV->aj->Prop} {c:Prop} (h:∀K0:List AV->aj->Prop,(c->K0 fr1 M1)->(¬c->K0 fr2 M2)->df P tt draw all r fr M K0) (hk1:c->K fr1 M1) (hk2:¬c->K fr2 M2):df P tt draw all r fr M K:=h K hk1 hk2
theorem mR {P:Program} {tt:TT} {D:List Nat} {c:Operand} {x y:Code} {fr:List AV} {M:aj} {Q:ez} (hc:c6 fr c= .bool true) (h:ct P tt D x fr M Q):ct P tt D (.cond c x y) fr M Q:=by
 simp only[ct,qZ,hc];exact h
theorem tZ {P:Program} {tt:TT} {D:List Nat} {c:Operand} {x y:Code} {fr:List AV} {M:aj} {Q:ez} (hc:c6 fr c= .bool false) (h:ct P tt D y fr M Q):ct P tt D (.cond c x y) fr M Q:=by
 simp only[ct,qZ,hc];exact h
theorem vB {P:Program} {tt:TT} {D:List Nat} {fr:List AV} {M:aj} {Q:ez} (h:Q .normal fr M):ct P tt D .skip fr M Q:=h
theorem Ha (b:Int):0+-1*b=-b:=by omega
theorem H7 (p:an) (q:aE) (sch:List Int) (vars:List Vb) (rows:List eN) (hn:vars.Nodup) (hv:vars.length<=1000000) (hr:rows.length<=100000) (hst:p.states.length<=1000) (hrl:p.rules.length<=1000) (hsd:∀i,i<p.rules.length->(p.rules.getD i aq).send.length<=1000000)
  (hT:(ar p.rules).length<=10) (hg:∀g∈ar p.rules,(1<=g.coef/\g.coef<=100)/\eD g.bound) (hsch:eM (ar p.rules).length sch) (j:Nat) (hj:j<=sch.length):
  am Tryz.prog 109 [.ptr 200 0, .int .i64 (j:Int)] (aj.ofL (dG p q sch vars rows))
   (fun u M=>u= .tup []/\M=aj.ofL (lG p q sch vars (rows++(tL p sch j).map (cL vars)))):=by
 have hsl:=dF hsch
 have z1:oV 1099511627776 zC:=qB (by omega)
 obtain⟨A,hA⟩:∃A:Nat->Co,A=fun(x:Nat)=>ce zC 1 (eE p.rules 3 5 x (j+1) 0):=⟨_,rfl⟩
 obtain⟨B,hB⟩:∃B:Nat->Co,B=fun(x:Nat)=>ce zC 1 (eE p.rules 4 6 x (j+1) 0):=⟨_,rfl⟩
 have hAp:∀rs (x:Nat),am Tryz.prog 197 [.ptr 200 0, .ptr 220 0, .int .i64 1, .int .i64 3, .int .i64 5, .int .i64 (x:Int), .int .i64 (j:Int)] (aj.ofL (dv p q sch vars rs zC 0))
   (fun u M=>u= .tup []/\M=aj.ofL (dv p q sch vars rs (A x) 0)):=fun rs x=>by
  rw[hA];exact wM p q sch vars rs zC 0 hn hv 1 x 3 5 j (by omega) (by omega) (by omega) hrl z1 (by unfold cB;omega)
 have hBp:∀rs (x:Nat),am Tryz.prog 197 [.ptr 200 0, .ptr 220 0, .int .i64 1, .int .i64 4, .int .i64 6, .int .i64 (x:Int), .int .i64 (j:Int)] (aj.ofL (dv p q sch vars rs zC 0))
   (fun u M=>u= .tup []/\M=aj.ofL (dv p q sch vars rs (B x) 0)):=fun rs x=>by
  rw[hB];exact wM p q sch vars rs zC 0 hn hv 1 x 4 6 j (by omega) (by omega) (by omega) hrl z1 (by unfold cB;omega)
 obtain⟨R,hR⟩:∃R:Nat->List eN,R=fun x=>rows++(if 0<j then[cL vars (tH p ((ar p.rules).getD (sch.getD (j-1) 0).toNat aA) j)] else[])++(List.range x).map fun x=>cL vars (A x,0):=⟨_,rfl⟩
 obtain⟨Q,hQ⟩:∃Q:Nat->List eN,Q=fun x=>R p.states.length++(List.range x).map fun x=>cL vars (B x,0):=⟨_,rfl⟩
 have hR0:0<j->R 0=rows++[cL vars (tH p ((ar p.rules).getD (sch.getD ((j:Int)-1).toNat 0).toNat aA) j)]:=fun h=>by
  rw[hR,show((j:Int)-1).toNat=j-1 by omega];simp only[if_pos h,List.range_zero,List.map_nil,List.append_nil]
 have hRz:¬0<j->R 0=rows:=fun h=>by
  rw[hR];simp only[if_neg h,List.range_zero,List.map_nil,List.append_nil]
 have hRn:∀x,R (x+1)=R x++[cL vars (A x,0)]:=fun x=>by
  rw[hR];simp only[List.range_succ,List.map_append,List.map_cons,List.map_nil,List.append_assoc]
 have hQ0:Q 0=R p.states.length:=by rw[hQ];simp
 have hQn:∀x,Q (x+1)=Q x++[cL vars (B x,0)]:=fun x=>by
  rw[hQ];simp only[List.range_succ,List.map_append,List.map_cons,List.map_nil,List.append_assoc]
 have hRl:∀x,x<=p.states.length->(R x).length<=102000:=fun x hx=>by
  have:(if 0<j then[cL vars (tH p ((ar p.rules).getD (sch.getD (j-1) 0).toNat aA) j)] else[]).length<=1:=by split<;>simp
  rw[hR];simp only[List.length_append,List.length_map,List.length_range];omega
 have hQl:∀x,x<=p.states.length->(Q x).length<=104000:=fun x hx=>by
  have:=hRl p.states.length (Nat.le_refl _)
  rw[hQ];simp only[List.length_append,List.length_map,List.length_range];omega
 have hend:rows++(tL p sch j).map (cL vars)=if pA p then Q p.states.length else R p.states.length:=by
  have e1:∀x:Nat,C2 p 3 5 x j=(A x,0):=fun x=>by rw[hA];rfl
  have e2:∀x:Nat,C2 p 4 6 x j=(B x,0):=fun x=>by rw[hB];rfl
  unfold tL
  simp only[e1,e2]
  by_cases h1:0<j<;>by_cases h2:pA p<;>simp[hQ,hR,h1,h2,List.map_map,Function.comp_def]
 rw[hend]
 clear hend hR hQ hA hB
 refine am.renorm 400 (R:=fun u M=>u= .tup []/\dc rP 400 M (lG p q sch vars (if pA p then Q p.states.length else R p.states.length))) ?_ ?_
 case refine_2=>
  rintro u M ⟨rfl,hM⟩
  exact⟨rP,_, .tup [],rfl,hM,trivial,rfl,rfl⟩
 refine am.intro ac ae (dG p q sch vars rows) Tryz.func109 rfl (by decide) ?_
 conv=>whnf
 have hs0:=H6 p q sch vars rows hv hr hst A B R Q j hAp hBp hRn hQ0 hQn hRl hQl
 conv at hs0=>whnf
 refine ag ?_ ?_<;>(intro h1;conv=>whnf)
 rotate_left
 ·exact aF.sub (by rw[hRz (by omega)];exact aR.by_ HZ _ 400 rfl (aa) (aa)) hs0
 ·have h1:0<j:=by omega
  have hb1:=hsch ((j:Int)-1).toNat (by omega)
  refine zo rfl ?_
  conv=>whnf
  repeat' ((first|refine nI ?_|refine aI ?_|refine tI ?_|refine fI ?_|fail);conv=>whnf)
  have hR0:=hR0
  have hgm:=hg _ (bi (l:=ar p.rules) (k:=(sch.getD ((j:Int)-1).toNat 0).toNat) aA (by omega))
  generalize (ar p.rules).getD (sch.getD ((j:Int)-1).toNat 0).toNat aA=g at hR0 hgm⊢
  obtain⟨hgc,hgb⟩:=hgm
  have s1:=wN p q sch vars rows zC 0 hn hv g.coef g.message 5 j (by omega) (by omega) hrl hsd z1 (by unfold cB;omega)
  have c1:oV 1000 (ce zC g.coef (cK p.rules 5 g.message j 0)):=aV (jI (qB (X:=0) (by omega)) (by unfold cB;omega) fun v=>by have:=tF p.rules 5 g.message j 0 v;omega) (by omega)
  have s2:=wN p q sch vars rows _ 0 hn hv g.coef g.message 6 j (by omega) (by omega) hrl hsd (aV c1 (by omega)) (by unfold cB;omega)
  have c2:oV 2000 (ce (ce zC g.coef (cK p.rules 5 g.message j 0)) g.coef (cK p.rules 6 g.message j 0)):=aV (jI c1 (by unfold cB;omega) fun v=>by have:=tF p.rules 6 g.message j 0 v;omega) (by omega)
  have s3:=vw p q sch vars rows _ 0 hn hv 2 (by omega) 0 0 g.coef (aV c2 (by omega)) (by omega)
  have c3:=nh c2 ⟨2,0,0⟩ (k:=g.coef) (Y:=100) (by omega) (by omega)
  have l3:=x8 p q sch vars rows _ 0 hn hv (-1) g.bound (aV c3 (by omega)) (by omega) (by unfold cB;omega) hgb
  have l2:=x8 p q sch vars rows _ 0 hn hv (-1) g.bound (aV c2 (by omega)) (by omega) (by unfold cB;omega) hgb
  rw[Ha] at l3 l2
  have gA:p.fault=3->tH p g j=(ce (da (ce (ce zC g.coef (cK p.rules 5 g.message j 0)) g.coef (cK p.rules 6 g.message j 0)) ⟨2,0,0⟩ g.coef) (-1) (iu g.bound),-g.bound.c):=fun h=>by unfold tH;simp only[if_pos h]
  have gB:¬p.fault=3->tH p g j=(ce (ce (ce zC g.coef (cK p.rules 5 g.message j 0)) g.coef (cK p.rules 6 g.message j 0)) (-1) (iu g.bound),-g.bound.c):=fun h=>by unfold tH;simp only[if_neg h]
  clear c1 c2 c3
  generalize ce zC g.coef (cK p.rules 5 g.message j 0)=d1 at*
  generalize ce d1 g.coef (cK p.rules 6 g.message j 0)=d2 at*
  generalize da d2 ⟨2,0,0⟩ g.coef=d3 at*
  generalize ce d3 (-1) (iu g.bound)=e3 at*
  generalize ce d2 (-1) (iu g.bound)=e2 at*
  refine am.call eU (dG p q sch vars rows) 400 rfl (aa) (aa) (vy p q sch vars rows hv) ?_
  rintro u M' ⟨rfl,rfl⟩
  refine⟨eU++[(221, .old 221)],dG p q sch vars rows++[(221, .row 3 0 ao (vars.map zC))], .agg [.row 221 vars.length 1, .int .i64 0],rfl,(aa),(aa),?_⟩
  simp only[jo,j8]
  apply A'
  case h=>
   intro K0 h0
   conv=>whnf
   exact h0
  refine dW ?_
  refine db ?_
  refine aN (.ptr 200 0) rfl (fun K' h=>?_) rfl ?_
  ·conv=>whnf
   exact h
  refine aN (.ptr 4 (0+1)) rfl (fun K' h=>?_) rfl ?_
  ·conv=>whnf
   exact h
  refine aN (.int .i64 g.coef) rfl (fun K' h=>?_) rfl ?_
  ·conv=>whnf
   exact h
  refine aN (.ptr 4 (0+0)) rfl (fun K' h=>?_) rfl ?_
  ·conv=>whnf
   exact h
  refine aN (.int .i64 g.message) rfl (fun K' h=>?_) rfl ?_
  ·conv=>whnf
   exact h
  refine aN (.int .i64 (j:Int)) rfl (fun K' h=>?_) rfl ?_
  ·conv=>whnf
   exact h
  refine fe rfl rfl ?_
  refine am.call (eU++[(220, .old 5),(221, .old 221)]) (dv p q sch vars rows zC 0) 400 rfl (aa) (aa) s1 ?_
  rintro u M' ⟨rfl,rfl⟩
  refine⟨eU++[(5, .old 220),(221, .old 221)],dG p q sch vars rows++[(5, .box 161 [.row 221 vars.length 1, .int .i64 0]),(221, .row 3 0 ao (vars.map d1))], .tup [],rfl,(aa),trivial,?_⟩
  simp only[jo,j8,bZ,List.set]
  refine fA ?_
  refine dW ?_
  refine db ?_
  refine aN (.ptr 200 0) rfl (fun K' h=>?_) rfl ?_
  ·conv=>whnf
   exact h
  refine aN (.ptr 4 (0+1)) rfl (fun K' h=>?_) rfl ?_
  ·conv=>whnf
   exact h
  refine aN (.int .i64 g.coef) rfl (fun K' h=>?_) rfl ?_
  ·conv=>whnf
   exact h
  refine aN (.ptr 4 (0+0)) rfl (fun K' h=>?_) rfl ?_
  ·conv=>whnf
   exact h
  refine aN (.int .i64 g.message) rfl (fun K' h=>?_) rfl ?_
  ·conv=>whnf
   exact h
  refine aN (.int .i64 (j:Int)) rfl (fun K' h=>?_) rfl ?_
  ·conv=>whnf
   exact h
  refine fe rfl rfl ?_
  refine am.call (eU++[(220, .old 5),(221, .old 221)]) (dv p q sch vars rows d1 0) 400 rfl (aa) (aa) s2 ?_
  rintro u M' ⟨rfl,rfl⟩
  refine⟨eU++[(5, .old 220),(221, .old 221)],dG p q sch vars rows++[(5, .box 161 [.row 221 vars.length 1, .int .i64 0]),(221, .row 3 0 ao (vars.map d2))], .tup [],rfl,(aa),trivial,?_⟩
  simp only[jo,j8,bZ,List.set]
  refine fA ?_
  refine dW ?_
  refine dW ?_
  refine db ?_
  apply yb (c:=p.fault=3)
  case h=>
   intro K0 a b
   conv=>whnf
   refine ag (fun h=>?_) (fun h=>?_)
   ·conv=>whnf
    exact a h
   ·conv=>whnf
    exact b h
  ·intro h3
   refine mR rfl ?_
   refine db ?_
   refine aN (.ptr 200 0) rfl (fun K' h=>?_) rfl ?_
   ·conv=>whnf
    exact h
   refine aN (.ptr 4 (0+1)) rfl (fun K' h=>?_) rfl ?_
   ·conv=>whnf
    exact h
   refine aN (.int .i64 g.coef) rfl (fun K' h=>?_) rfl ?_
   ·conv=>whnf
    exact h
   refine fe rfl rfl ?_
   refine am.call (eU++[(220, .old 5),(221, .old 221)]) (dv p q sch vars rows d2 0) 400 rfl (aa) (aa) s3 ?_
   rintro u M' ⟨rfl,rfl⟩
   refine⟨eU++[(5, .old 220),(221, .old 221)],dG p q sch vars rows++[(5, .box 161 [.row 221 vars.length 1, .int .i64 0]),(221, .row 3 0 ao (vars.map d3))], .tup [],rfl,(aa),trivial,?_⟩
   simp only[jo,j8,bZ,List.set]
   refine fA ?_
   refine dW ?_
   refine db ?_
   refine aN (.ptr 200 0) rfl (fun K' h=>?_) rfl ?_
   ·conv=>whnf
    exact h
   refine aN (.ptr 4 (0+2)) rfl (fun K' h=>?_) rfl ?_
   ·conv=>whnf
    exact h
   refine aN (.agg (bT g.bound)) rfl (fun K' h=>?_) rfl ?_
   ·conv=>whnf
    exact h
   refine fe rfl rfl ?_
   refine am.call (eU++[(220, .old 5),(221, .old 221)]) (dv p q sch vars rows d3 0) 400 rfl (aa) (aa) l3 ?_
   rintro u M' ⟨rfl,rfl⟩
   refine⟨eU++[(5, .old 220),(221, .old 221)],dG p q sch vars rows++[(5, .box 161 [.row 221 vars.length 1, .int .i64 (-g.bound.c)]),(221, .row 3 0 ao (vars.map e3))], .tup [],rfl,(aa),trivial,?_⟩
   simp only[jo,j8,bZ,List.set]
   refine fA ?_
   conv=>whnf
   apply gS
   case k=>
    intro o1 o2 o3 o4 o5 o6
    refine jJ [0,1,2,3,8,9] (by decide+kernel) ?_
    conv=>whnf
    repeat' first
     |exact True.intro
     |(refine And.intro ?_ ?_<;>conv=>whnf)
     |(refine bD eZ d6 [cL vars (e3,-g.bound.c)] rfl ?_;conv=>whnf)
     |(refine fu ?_;conv=>whnf)
     |(refine bQ [cL vars (e3,-g.bound.c)] rfl (by clear o1 o2 o3 o4 o5 o6;simp only[List.length_cons,List.length_nil];omega) ?_;conv=>whnf)
     |with_reducible exact o1
     |with_reducible exact o2
     |with_reducible exact o3
     |with_reducible exact o4
     |with_reducible exact o5
     |with_reducible exact o6
     |fail
   all_goals try first
    |exact True.intro
    |exact True
   all_goals
    exact aF.sub (by rw[hR0 h1,gA h3];exact aR.by_ [(200, .old 200),(201, .old 201),(202, .old 69),(210, .old 210),(211, .old 211),(212, .old 212),(213, .old 213),(214, .old 214),(215, .old 215),(216, .old 216)] _ 400 rfl (aa) (aa)) hs0
  ·intro h3
   refine tZ rfl ?_
   refine vB ?_
   refine dW ?_
   refine db ?_
   refine aN (.ptr 200 0) rfl (fun K' h=>?_) rfl ?_
   ·conv=>whnf
    exact h
   refine aN (.ptr 4 (0+2)) rfl (fun K' h=>?_) rfl ?_
   ·conv=>whnf
    exact h
   refine aN (.agg (bT g.bound)) rfl (fun K' h=>?_) rfl ?_
   ·conv=>whnf
    exact h
   refine fe rfl rfl ?_
   refine am.call (eU++[(220, .old 5),(221, .old 221)]) (dv p q sch vars rows d2 0) 400 rfl (aa) (aa) l2 ?_
   rintro u M' ⟨rfl,rfl⟩
   refine⟨eU++[(5, .old 220),(221, .old 221)],dG p q sch vars rows++[(5, .box 161 [.row 221 vars.length 1, .int .i64 (-g.bound.c)]),(221, .row 3 0 ao (vars.map e2))], .tup [],rfl,(aa),trivial,?_⟩
   simp only[jo,j8,bZ,List.set]
   refine fA ?_
   conv=>whnf
   apply gS
   case k=>
    intro o1 o2 o3 o4 o5 o6
    refine jJ [0,1,2,3,8,9] (by decide+kernel) ?_
    conv=>whnf
    repeat' first
     |exact True.intro
     |(refine And.intro ?_ ?_<;>conv=>whnf)
     |(refine bD eZ d6 [cL vars (e2,-g.bound.c)] rfl ?_;conv=>whnf)
     |(refine fu ?_;conv=>whnf)
     |(refine bQ [cL vars (e2,-g.bound.c)] rfl (by clear o1 o2 o3 o4 o5 o6;simp only[List.length_cons,List.length_nil];omega) ?_;conv=>whnf)
     |with_reducible exact o1
     |with_reducible exact o2
     |with_reducible exact o3
     |with_reducible exact o4
     |with_reducible exact o5
     |with_reducible exact o6
     |fail
   all_goals try first
    |exact True.intro
    |exact True
   all_goals
    exact aF.sub (by rw[hR0 h1,gB h3];exact aR.by_ [(200, .old 200),(201, .old 201),(202, .old 69),(210, .old 210),(211, .old 211),(212, .old 212),(213, .old 213),(214, .old 214),(215, .old 215),(216, .old 216)] _ 400 rfl (aa) (aa)) hs0
theorem Hb (p:an) (q:aE) (sch:List Int) (vars:List Vb) (rows:List eN) (hn:vars.Nodup) (hv:vars.length<=1000000) (hr:rows.length<=1000000) (hrl:p.rules.length<=1000) (hsl:sch.length<=10) (states:List Int) (hsts:states.length<=10000) (least:Int) (hls:0<=least/\least<=1000):
  am Tryz.prog 198 [.ptr 200 0, .sl 0 ao states, .int .i64 least] (aj.ofL (dG p q sch vars rows))
   (fun u M=>u= .tup []/\M=aj.ofL (lG p q sch vars (rows++[cL vars (tJ p sch.length states least)]))):=by
 obtain⟨F,hF⟩:∃F:Nat->Co,F=fun x=>(states.take x).foldl (fun c x=>ce c 1 (eE p.rules 3 5 x (sch.length+1) 0)) zC:=⟨_,rfl⟩
 have hF0:F 0=zC:=by rw[hF];rfl
 have hFn:∀x,x<states.length->F (x+1)=ce (F x) 1 (eE p.rules 3 5 (states.getD (x:Int).toNat 0) (sch.length+1) 0):=fun x hx=>by
  rw[hF,tN]
  dsimp only
  rw[List.take_succ_eq_append_getElem hx,List.foldl_append,au 0 hx]
  rfl
 have hFb:∀x,x<=states.length->oV (200*x) (F x):=by
  intro x
  induction x with
  |zero=>intro _;rw[hF0];exact qB (by omega)
  |succ x ih=>
   intro hx
   rw[hFn x (by omega)]
   exact aV (jI (ih (by omega)) (by unfold cB;omega) fun v=>by have:=Ej p.rules 3 5 (states.getD (x:Int).toNat 0) (sch.length+1) 0 v;omega) (by omega)
 have hend:tJ p sch.length states least=(F states.length,0-least):=by
  rw[hF];dsimp only;rw[List.take_length,Int.zero_sub];rfl
 rw[hend]
 have hp:∀x,x<states.length->am Tryz.prog 197 [.ptr 200 0, .ptr 220 0, .int .i64 1, .int .i64 3, .int .i64 5, .int .i64 (states.getD (x:Int).toNat 0), .int .i64 (sch.length:Int)] (aj.ofL (dv p q sch vars rows (F x) 0))
   (fun u M=>u= .tup []/\M=aj.ofL (dv p q sch vars rows (F (x+1)) 0)):=fun x hx=>by
  rw[hFn x hx]
  exact wM p q sch vars rows (F x) 0 hn hv 1 (states.getD (x:Int).toNat 0) 3 5 sch.length (by omega) (by omega) (by omega) hrl (aV (hFb x (by omega)) (by omega)) (by unfold cB;omega)
 clear hend hFn hFb hF
 refine am.renorm 400 (R:=fun u M=>u= .tup []/\dc ((202, .old 38)::eU) 400 M (lG p q sch vars (rows++[cL vars (F states.length,0-least)]))) ?_ ?_
 case refine_2=>
  rintro u M ⟨rfl,hM⟩
  exact⟨(202, .old 38)::eU,_, .tup [],rfl,hM,trivial,rfl,rfl⟩
 refine am.intro ac ae (dG p q sch vars rows) Tryz.func198 rfl (by decide) ?_
 conv=>whnf
 refine am.call eU (dG p q sch vars rows) 400 rfl (aa) (aa) (vy p q sch vars rows hv) ?_
 rintro u M' ⟨rfl,rfl⟩
 refine⟨eU++[(221, .old 221)],dG p q sch vars rows++[(221, .row 3 0 ao (vars.map zC))], .agg [.row 221 vars.length 1, .int .i64 0],rfl,(aa),(aa),?_⟩
 conv=>whnf
 refine aF.loopF ac ae (fun x:Nat=>x<=states.length) (fun x=>[(13, .int .i64 (x:Int))]) (fun x=>dG p q sch vars rows++[(6, .box 161 [.row 221 vars.length 1, .int .i64 0]),(221, .row 3 0 ao (vars.map (F x)))]) (fun x=>states.length-x) 0 (Nat.zero_le _) ?_;conv=>whnf
 refine⟨by rw[hF0];exact aR.by_ (eU++[(6, .old 6),(221, .old 221)]) _ 400 rfl (aa) (aa),?_⟩
 rintro x hx
 conv=>whnf
 refine ag ?_ ?_<;>(intro h1;conv=>whnf)
 ·have hp1:=hp x (by omega)
  repeat' ((first|refine nI ?_|refine aI ?_|refine tI ?_|refine fI ?_|fail);conv=>whnf)
  refine am.call (eU++[(220, .old 6),(221, .old 221)]) (dv p q sch vars rows (F x) 0) 400 rfl (aa) (aa) hp1 ?_
  rintro u M' ⟨rfl,rfl⟩
  refine⟨eU++[(6, .old 220),(221, .old 221)],dG p q sch vars rows++[(6, .box 161 [.row 221 vars.length 1, .int .i64 0]),(221, .row 3 0 ao (vars.map (F (x+1))))], .tup [],rfl,(aa),trivial,?_⟩
  conv=>whnf
  repeat' ((first|refine nI ?_|refine aI ?_|refine tI ?_|refine fI ?_|fail);conv=>whnf)
  refine⟨x+1,?_,by omega,by dsimp only;omega⟩
  exact aR.by_ (eU++[(6, .old 6),(221, .old 221)]) _ 400 rfl (aa) (aa)
 ·obtain rfl:x=states.length:=by omega
  repeat' ((first|refine nI ?_|refine aI ?_|refine tI ?_|refine fI ?_|fail);conv=>whnf)
  as_aux_lemma=>
  refine jJ [0,1,2,3,8,9] (by decide+kernel) ?_
  conv=>whnf
  repeat' first
   |exact True.intro
   |(refine And.intro ?_ ?_<;>conv=>whnf)
   |(refine bD eZ d6 [cL vars (F states.length,0-least)] rfl ?_;conv=>whnf)
   |(refine fu ?_;conv=>whnf)
   |(refine bQ [cL vars (F states.length,0-least)] rfl lI ?_;conv=>whnf)
   |exact rfl
   |exact(List.length_append ..).symm
   |fail
theorem H8 (p:an) (q:aE) (sch:List Int) (vars:List Vb) (rows:List eN) (hn:vars.Nodup) (hv:vars.length<=1000000) (hr:rows.length<=1000000) (hrl:p.rules.length<=1000) (hsd:∀i,i<p.rules.length->(p.rules.getD i aq).send.length<=1000000) (hsl:sch.length<=9)
  (i:Nat) (hi:i<p.rules.length) (hg:∀g∈(p.rules.getD i aq).guards,(1<=g.coef/\g.coef<=100)/\eD g.bound) (hgl:(p.rules.getD i aq).guards.length<=1000) (ch:Int) (hc:0<=ch/\ch<=(p.rules.getD i aq).guards.length):
  am Tryz.prog 200 [.ptr 200 0, .int .i64 (i:Int), .int .i64 ch] (aj.ofL (dG p q sch vars rows))
   (fun u M=>u= .tup []/\M=aj.ofL (lG p q sch vars (rows++[cL vars (tK p sch.length (p.rules.getD i aq) ch)]))):=by
 have z1:oV 1099511627776 zC:=qB (by omega)
 refine am.renorm 400 (R:=fun u M=>u= .tup []/\dc ((202, .old 97)::eU) 400 M (lG p q sch vars (rows++[cL vars (tK p sch.length (p.rules.getD i aq) ch)]))) ?_ ?_
 case refine_2=>
  rintro u M ⟨rfl,hM⟩
  exact⟨(202, .old 97)::eU,_, .tup [],rfl,hM,trivial,rfl,rfl⟩
 refine am.intro ac ae (dG p q sch vars rows) Tryz.func200 rfl (by decide) ?_
 conv=>whnf
 refine am.call eU (dG p q sch vars rows) 400 rfl (aa) (aa) (vy p q sch vars rows hv) ?_
 rintro u M' ⟨rfl,rfl⟩
 refine⟨eU++[(221, .old 221)],dG p q sch vars rows++[(221, .row 3 0 ao (vars.map zC))], .agg [.row 221 vars.length 1, .int .i64 0],rfl,(aa),(aa),?_⟩
 conv=>whnf
 refine ag ?_ ?_<;>(intro h1;conv=>whnf)
 ·subst h1
  have hp:=wM p q sch vars rows zC 0 hn hv (-1) (p.rules.getD (i:Int).toNat aq).src 3 5 sch.length (by omega) (by omega) (by omega) hrl z1 (by unfold cB;omega)
  have e:tK p sch.length (p.rules.getD i aq) 0=(ce zC (-1) (eE p.rules 3 5 (p.rules.getD (i:Int).toNat aq).src (sch.length+1) 0),0):=by unfold tK;rw[if_pos rfl,tN]
  rw[e]
  generalize ce zC (-1) (eE p.rules 3 5 (p.rules.getD (i:Int).toNat aq).src (sch.length+1) 0)=d at*
  clear e
  refine zp .any [30] (by decide+kernel) ?_
  conv=>whnf
  repeat' ((first|refine nI ?_|refine aI ?_|refine tI ?_|refine fI ?_|fail);conv=>whnf)
  refine am.call (eU++[(220, .old 6),(221, .old 221)]) (dv p q sch vars rows zC 0) 400 rfl (aa) (aa) hp ?_
  rintro u M' ⟨rfl,rfl⟩
  refine⟨eU++[(6, .old 220),(221, .old 221)],dG p q sch vars rows++[(6, .box 161 [.row 221 vars.length 1, .int .i64 0]),(221, .row 3 0 ao (vars.map d))], .tup [],rfl,(aa),trivial,?_⟩
  conv=>whnf
  repeat' ((first|refine nI ?_|refine aI ?_|refine tI ?_|refine fI ?_|fail);conv=>whnf)
  as_aux_lemma=>
  refine jJ [0,1,2,3,8,9] (by decide+kernel) ?_
  conv=>whnf
  repeat' first
   |exact True.intro
   |(refine And.intro ?_ ?_<;>conv=>whnf)
   |(refine bD eZ d6 [cL vars (d,0)] rfl ?_;conv=>whnf)
   |(refine fu ?_;conv=>whnf)
   |(refine bQ [cL vars (d,0)] rfl lI ?_;conv=>whnf)
   |exact rfl
   |exact(List.length_append ..).symm
   |fail
 ·repeat' ((first|refine nI ?_|refine aI ?_|refine tI ?_|refine fI ?_|fail);conv=>whnf)
  have hgm:=hg _ (bi (l:=(p.rules.getD i aq).guards) (k:=(ch-1).toNat) aA (by omega))
  have e0:=tK.eq_1 p sch.length (p.rules.getD i aq) ch
  rw[if_neg h1] at e0
  rw[e0]
  clear e0
  rw[tN]
  dsimp only
  generalize (p.rules.getD i aq).guards.getD (ch-1).toNat aA=g at hgm⊢
  repeat' ((first|refine nI ?_|refine aI ?_|refine tI ?_|refine fI ?_|fail);conv=>whnf)
  obtain⟨hgc,hgb⟩:=hgm
  have s1:=wN p q sch vars rows zC 0 hn hv (-g.coef) g.message 5 (sch.length+1) (by omega) (by omega) hrl hsd z1 (by unfold cB;omega)
  have c1:oV 1000 (ce zC (-g.coef) (cK p.rules 5 g.message (sch.length+1) 0)):=aV (jI (qB (X:=0) (by omega)) (by unfold cB;omega) fun v=>by have:=tF p.rules 5 g.message (sch.length+1) 0 v;omega) (by omega)
  have s2:=wN p q sch vars rows _ 0 hn hv (-g.coef) g.message 6 (sch.length+1) (by omega) (by omega) hrl hsd (aV c1 (by omega)) (by unfold cB;omega)
  have c2:oV 2000 (ce (ce zC (-g.coef) (cK p.rules 5 g.message (sch.length+1) 0)) (-g.coef) (cK p.rules 6 g.message (sch.length+1) 0)):=aV (jI c1 (by unfold cB;omega) fun v=>by have:=tF p.rules 6 g.message (sch.length+1) 0 v;omega) (by omega)
  have l1:=x8 p q sch vars rows _ 0 hn hv 1 g.bound (aV c1 (by omega)) (by omega) (by unfold cB;omega) hgb
  have l2:=x8 p q sch vars rows _ 0 hn hv 1 g.bound (aV c2 (by omega)) (by omega) (by unfold cB;omega) hgb
  rw[show(0:Int)+1*g.bound.c=g.bound.c by omega] at l1 l2
  clear c1 c2
  generalize ce zC (-g.coef) (cK p.rules 5 g.message (sch.length+1) 0)=d1 at*
  generalize ce d1 (-g.coef) (cK p.rules 6 g.message (sch.length+1) 0)=d2 at*
  have hgc2:=hgb.1
  unfold cB at hgc2
  refine zp .any [59] (by decide+kernel) ?_
  conv=>whnf
  repeat' ((first|refine nI ?_|refine aI ?_|refine tI ?_|refine fI ?_|fail);conv=>whnf)
  refine am.call (eU++[(220, .old 6),(221, .old 221)]) (dv p q sch vars rows zC 0) 400 rfl (aa) (aa) s1 ?_
  rintro u M' ⟨rfl,rfl⟩
  refine⟨eU++[(6, .old 220),(221, .old 221)],dG p q sch vars rows++[(6, .box 161 [.row 221 vars.length 1, .int .i64 0]),(221, .row 3 0 ao (vars.map d1))], .tup [],rfl,(aa),trivial,?_⟩
  conv=>whnf
  refine ag ?_ ?_<;>(intro h3;conv=>whnf)
  ·simp only[if_pos h3]
   generalize ce d2 1 (iu g.bound)=e2 at*
   refine zp .any [81] (by decide+kernel) ?_
   conv=>whnf
   repeat' ((first|refine nI ?_|refine aI ?_|refine tI ?_|refine fI ?_|fail);conv=>whnf)
   refine am.call (eU++[(220, .old 6),(221, .old 221)]) (dv p q sch vars rows d1 0) 400 rfl (aa) (aa) s2 ?_
   rintro u M' ⟨rfl,rfl⟩
   refine⟨eU++[(6, .old 220),(221, .old 221)],dG p q sch vars rows++[(6, .box 161 [.row 221 vars.length 1, .int .i64 0]),(221, .row 3 0 ao (vars.map d2))], .tup [],rfl,(aa),trivial,?_⟩
   conv=>whnf
   refine am.call (eU++[(220, .old 6),(221, .old 221)]) (dv p q sch vars rows d2 0) 400 rfl (aa) (aa) l2 ?_
   rintro u M' ⟨rfl,rfl⟩
   refine⟨eU++[(6, .old 220),(221, .old 221)],dG p q sch vars rows++[(6, .box 161 [.row 221 vars.length 1, .int .i64 g.bound.c]),(221, .row 3 0 ao (vars.map e2))], .tup [],rfl,(aa),trivial,?_⟩
   conv=>whnf
   repeat' ((first|refine nI ?_|refine aI ?_|refine tI ?_|refine fI ?_|fail);conv=>whnf)
   as_aux_lemma=>
   refine jJ [0,1,2,3,8,9] (by decide+kernel) ?_
   conv=>whnf
   repeat' first
    |exact True.intro
    |(refine And.intro ?_ ?_<;>conv=>whnf)
    |(refine bD eZ d6 [cL vars (e2,g.bound.c-1)] rfl ?_;conv=>whnf)
    |(refine fu ?_;conv=>whnf)
    |(refine bQ [cL vars (e2,g.bound.c-1)] rfl lI ?_;conv=>whnf)
    |exact rfl
    |exact(List.length_append ..).symm
    |fail
  ·simp only[if_neg h3]
   generalize ce d1 1 (iu g.bound)=e2 at*
   refine am.call (eU++[(220, .old 6),(221, .old 221)]) (dv p q sch vars rows d1 0) 400 rfl (aa) (aa) l1 ?_
   rintro u M' ⟨rfl,rfl⟩
   refine⟨eU++[(6, .old 220),(221, .old 221)],dG p q sch vars rows++[(6, .box 161 [.row 221 vars.length 1, .int .i64 g.bound.c]),(221, .row 3 0 ao (vars.map e2))], .tup [],rfl,(aa),trivial,?_⟩
   conv=>whnf
   repeat' ((first|refine nI ?_|refine aI ?_|refine tI ?_|refine fI ?_|fail);conv=>whnf)
   as_aux_lemma=>
   refine jJ [0,1,2,3,8,9] (by decide+kernel) ?_
   conv=>whnf
   repeat' first
    |exact True.intro
    |(refine And.intro ?_ ?_<;>conv=>whnf)
    |(refine bD eZ d6 [cL vars (e2,g.bound.c-1)] rfl ?_;conv=>whnf)
    |(refine fu ?_;conv=>whnf)
    |(refine bQ [cL vars (e2,g.bound.c-1)] rfl lI ?_;conv=>whnf)
    |exact rfl
    |exact(List.length_append ..).symm
    |fail
end Go.Proofs.YtekmminpfhacpaaGreatDoor
