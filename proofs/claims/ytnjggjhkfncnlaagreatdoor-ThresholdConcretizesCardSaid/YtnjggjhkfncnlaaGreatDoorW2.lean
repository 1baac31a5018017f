import Derived.Test.YtnjggjhkfncnlaaGreatDoorW1
import Derived.Test.YtnjggjhkfncnlaaGreatDoorV1
set_option linter.unusedVariables false
set_option linter.unusedSimpArgs false
namespace Go.Proofs.YtnjggjhkfncnlaaGreatDoor
set_option maxRecDepth 100000
set_option maxHeartbeats 16000000
def Kh:cT:=[(200, .old 200),(201, .old 201),(202, .old 201),(210, .old 210),(211, .old 211),(212, .old 212),(213, .old 213),(214, .old 214),(215, .old 215),(216, .old 216)]
def tv:cT:=[(200, .old 200),(201, .old 201),(202, .old 202),(210, .old 210),(211, .old 211),(212, .old 212),(213, .old 213),(214, .old 214),(215, .old 215),(216, .old 216)]
def CW:cT:=[(200, .old 200),(201, .old 202),(210, .old 210),(211, .old 211),(212, .old 212),(213, .old 213),(214, .old 214),(215, .old 215),(216, .old 216)]
def Hy:cT:=[(200, .old 200),(202, .old 201),(210, .old 210),(211, .old 211),(212, .old 212),(213, .old 213),(214, .old 214),(215, .old 215),(216, .old 216)]
noncomputable abbrev Hz (lr:Nat) (p:au) (q:aV) (sch:List Int) (vars:List Vb) (rows:List cK):List (Nat×cn):=
 [(200, .box 76 (Gc p q sch vars.length lr rows.length)),(lr, .row 154 bz bE rows),(210,fM vars 0),(211,fM vars 1),(212,fM vars 2),(213,fM vars 3),(214,fM vars 4),(215,fM vars 5),(216,fM vars 6)]
theorem once {A B:Prop} (h:A) (k:A->B):B:=k h
theorem cA {A1 A2 A3 A4 A5 A6 B:Prop} (k:A1->A2->A3->A4->A5->A6->B) (h1:A1) (h2:A2) (h3:A3) (h4:A4) (h5:A5) (h6:A6):B:=k h1 h2 h3 h4 h5 h6
theorem Fo (kind:Int) (c:Co) (k:Int):ba c k (oq kind 0)=c:=by
 funext v
 have h:¬(v.kind=kind/\v.seg=0/\0<=v.idx/\v.idx<(0:Nat)):=by omega
 unfold ba oq
 rw[if_neg h];omega
theorem Ki (kind:Int) (n:Nat) (v:Vb):-2<=oq kind n v/\oq kind n v<=2:=by
 unfold oq
 split<;>omega
theorem jV {X:Int} (h:0<=X):iY X zC:=fun v=>by unfold zC;omega
theorem Ja (x:Nat) (hx:x<2):-1<=([1,-1]:List Int).getD (x:Int).toNat 0/\([1,-1]:List Int).getD (x:Int).toNat 0<=1:=by
 obtain rfl|rfl:x=0\/x=1:=by omega
 ·decide
 ·decide
theorem Kj (p:au) (q:aV) (sch:List Int) (vars:List Vb) (rows:List cK) (hn:vars.Nodup) (hv:vars.length<=1000000) (hr:rows.length<=1000000) (hs:p.states.length<=1000) (kind:Int) (hk:0<=kind/\kind<7) (l:g7) (hl:c6 l):
  ak Tryz.prog 93 [.ptr 200 0, .int .i64 kind, .agg (bM l)] (aj.ofL (c9 p q sch vars rows))
   (fun u M=>u= .tup []/\M=aj.ofL (mH p q sch vars (rows++[aN vars (fh kind p.states.length 1 l),aN vars (fh kind p.states.length (-1) l)]))):=by
 have hF0:∀k,ba zC k (oq kind 0)=zC:=fun k=>Fo kind zC k
 have hFn:∀k i,ba zC k (oq kind (i+1))=d6 (ba zC k (oq kind i)) ⟨kind,0,i⟩ k:=fun k i=>E7 kind i zC k
 have hFb:∀k i,bO k->iY 1000 (ba zC k (oq kind i)):=fun k i h=>aC (f5 (jV (X:=0) (by omega)) h (Ki kind i)) (by omega)
 have hsta:∀k,fh kind p.states.length k l=(ba (ba zC k (oq kind p.states.length)) (-k) (bf l),-k*l.c):=fun k=>rfl
 obtain⟨F,hF⟩:∃F:Int->Nat->Co,F=fun k i=>ba zC k (oq kind i):=⟨_,rfl⟩
 have e0:∀k i,ba zC k (oq kind i)=F k i:=fun k i=>by rw[hF]
 simp only[e0] at hF0 hFn hFb hsta
 clear e0 hF
 obtain⟨G,hG⟩:∃G:Int->Co,G=fun k=>ba (F k p.states.length) (-k) (bf l):=⟨_,rfl⟩
 have hadd:∀rs k (i:Nat),bO k->ak Tryz.prog 167 [.ptr 200 0, .ptr 220 0, .int .i64 k, .int .i64 kind, .int .i64 0, .int .i64 (i:Int)] (aj.ofL (eE p q sch vars rs (F k i) 0))
   (fun u M=>u= .tup []/\M=aj.ofL (eE p q sch vars rs (F k (i+1)) 0)):=fun rs k i h=>by
  have h':-100<=k/\k<=100:=h
  rw[hFn k i]
  exact Fm p q sch vars rs (F k i) 0 hn hv kind hk 0 i k (aC (hFb k i h) (by omega)) (by omega)
 have hlin:∀rs k,bO k->ak Tryz.prog 166 [.ptr 200 0, .ptr 220 0, .int .i64 (-k), .agg (bM l)] (aj.ofL (eE p q sch vars rs (F k p.states.length) 0))
   (fun u M=>u= .tup []/\M=aj.ofL (eE p q sch vars rs (G k) (-k*l.c))):=fun rs k h=>by
  have h':-100<=k/\k<=100:=h
  have a:=zX p q sch vars rs (F k p.states.length) 0 hn hv (-k) l (aC (hFb k _ h) (by omega)) (by omega) (by unfold bO;omega) hl
  rw[Int.zero_add] at a
  rw[hG]
  exact a
 simp only[hsta]
 have hG':∀k,ba (F k p.states.length) (-k) (bf l)=G k:=fun k=>by rw[hG]
 simp only[hG']
 clear hsta hG hG'
 obtain⟨R,hR⟩:∃R:Nat->List cK,R=fun x=>rows++[aN vars (G 1,-1*l.c),aN vars (G (-1),-(-1)*l.c)].take x:=⟨_,rfl⟩
 have hR0:R 0=rows:=by rw[hR];simp
 have hR2:rows++[aN vars (G 1,-1*l.c),aN vars (G (-1),-(-1)*l.c)]=R 2:=by rw[hR];rfl
 have hRn:∀x,x<2->R (x+1)=R x++[aN vars (G (([1,-1]:List Int).getD (x:Int).toNat 0),-(([1,-1]:List Int).getD (x:Int).toNat 0)*l.c)]:=fun x hx=>by
  obtain rfl|rfl:x=0\/x=1:=by omega
  ·rw[hR];simp
  ·rw[hR];simp
 have hRl:∀x,(R x).length<=1000002:=fun x=>by
  rw[hR];simp only[List.length_append,List.length_take,List.length_cons,List.length_nil];omega
 rw[hR2]
 subst hR0
 clear hR hR2
 refine ak.renorm 400 (R:=fun u M=>u= .tup []/\cU tv 400 M (mH p q sch vars (R 2))) ?_ ?_
 case refine_2=>
  rintro u M ⟨rfl,hM⟩
  exact⟨tv,_, .tup [],rfl,hM,trivial,rfl,rfl⟩
 refine ak.intro ac ag (c9 p q sch vars (R 0)) Tryz.func93 rfl (by decide) ?_
 simp only[eV]
 rw[show Tryz.f93.ntmps=52 from rfl]
 simp only[cy]
 simp only[dv]
 rw[bu]
 simp only[gv,aJ,List.map_cons,List.map_nil,bc]
 conv=>whnf
 refine al rfl ?_
 conv=>whnf
 refine aH.loopF ac ag (fun x:Nat=>x<=2) (fun x=>[(12, .int .i64 (x:Int))]) (fun x=>mH p q sch vars (R x)++[(10, .row 3 0 an [1,-1])]) (fun x=>2-x) 0 (Nat.zero_le _) ?_;conv=>whnf
 refine⟨aL.by_ (Kh++[(10, .old 10)]) _ 400 rfl (aa) (aa),?_⟩
 rintro x hx
 conv=>whnf
 refine ah ?_ ?_<;>(intro h1;conv=>whnf)
 ·have hfl:=Ja x (by omega)
  have hRn1:=hRn x (by omega)
  have hRl1:=hRl x
  repeat' ((first|refine nI ?_|refine aI ?_|refine tI ?_|refine fI ?_|fail);conv=>whnf)
  generalize ([1,-1]:List Int).getD (x:Int).toNat 0=k at*
  have hkf:bO k:=by unfold bO;omega
  refine ak.call CW (c9 p q sch vars (R x)) 400 rfl (aa) (aa) (xm p q sch vars (R x) hv) ?_
  rintro u M' ⟨rfl,rfl⟩
  refine⟨Hy++[(221, .old 221)],Hz 202 p q sch vars (R x)++[(221, .row 3 0 an (vars.map zC))], .agg [.row 221 vars.length 1, .int .i64 0],rfl,(aa),(aa),?_⟩
  conv=>whnf
  refine aH.loopF ac ag (fun i:Nat=>i<=p.states.length) (fun i=>[(27, .int .i64 (i:Int))]) (fun i=>mH p q sch vars (R x)++[(10, .row 3 0 an [1,-1]),(8, .box 154 [.row 221 vars.length 1, .int .i64 0]),(221, .row 3 0 an (vars.map (F k i)))]) (fun i=>p.states.length-i) 0 (Nat.zero_le _) ?_;conv=>whnf
  refine⟨by rw[hF0 k];exact aL.by_ (tv++[(10, .old 10),(8, .old 8),(221, .old 221)]) _ 400 rfl (aa) (aa),?_⟩
  rintro i hi
  conv=>whnf
  refine ah ?_ ?_<;>(intro h2;conv=>whnf)
  ·repeat' ((first|refine nI ?_|refine aI ?_|refine tI ?_|refine fI ?_|fail);conv=>whnf)
   refine ak.call (CW++[(220, .old 8),(221, .old 221)]) (eE p q sch vars (R x) (F k i) 0) 400 rfl (aa) (aa) (hadd (R x) k i hkf) ?_
   rintro u M' ⟨rfl,rfl⟩
   refine⟨Hy++[(8, .old 220),(221, .old 221)],Hz 202 p q sch vars (R x)++[(8, .box 154 [.row 221 vars.length 1, .int .i64 0]),(221, .row 3 0 an (vars.map (F k (i+1))))], .tup [],rfl,(aa),trivial,?_⟩
   conv=>whnf
   repeat' ((first|refine nI ?_|refine aI ?_|refine tI ?_|refine fI ?_|fail);conv=>whnf)
   refine⟨i+1,?_,by omega,by dsimp only;omega⟩
   exact aL.by_ (tv++[(10, .old 10),(8, .old 8),(221, .old 221)]) _ 400 rfl (aa) (aa)
  ·obtain rfl:i=p.states.length:=by omega
   repeat' ((first|refine nI ?_|refine aI ?_|refine tI ?_|refine fI ?_|fail);conv=>whnf)
   refine ak.call (CW++[(220, .old 8),(221, .old 221)]) (eE p q sch vars (R x) (F k p.states.length) 0) 400 rfl (aa) (aa) (hlin (R x) k hkf) ?_
   rintro u M' ⟨rfl,rfl⟩
   refine⟨Hy++[(8, .old 220),(221, .old 221)],Hz 202 p q sch vars (R x)++[(8, .box 154 [.row 221 vars.length 1, .int .i64 (-k*l.c)]),(221, .row 3 0 an (vars.map (G k)))], .tup [],rfl,(aa),trivial,?_⟩
   conv=>whnf
   apply cA
   case k=>
    intro o1 o2 o3 o4 o5 o6
    refine kK [0,1,2,3,8,9] (by decide+kernel) ?_
    conv=>whnf
    repeat' first
     |exact True.intro
     |(refine And.intro ?_ ?_<;>conv=>whnf)
     |(refine bw bz bE [aN vars (G k,-k*l.c)] rfl ?_;conv=>whnf)
     |(refine cb ?_;conv=>whnf)
     |(refine bD [aN vars (G k,-k*l.c)] rfl (by clear o1 o2 o3 o4 o5 o6;simp only[List.length_cons,List.length_nil];omega) ?_;conv=>whnf)
     |with_reducible exact o1
     |with_reducible exact o2
     |with_reducible exact o3
     |with_reducible exact o4
     |with_reducible exact o5
     |with_reducible exact o6
     |fail
   all_goals try first
    |exact True.intro
    |exact True
   all_goals
    repeat' ((first|refine nI ?_|refine aI ?_|refine tI ?_|refine fI ?_|fail);conv=>whnf)
    refine⟨x+1,?_,by omega,by dsimp only;omega⟩
    dsimp only
    rw[hRn1]
    exact aL.by_ [(200, .old 200),(201, .old 201),(202, .old 48),(210, .old 210),(211, .old 211),(212, .old 212),(213, .old 213),(214, .old 214),(215, .old 215),(216, .old 216),(10, .old 10)] _ 400 rfl (aa) (aa)
 ·obtain rfl:x=2:=by omega
  exact⟨rfl,(aa)⟩
def Kk:Option Code->Code
 |some (.seq _ (.seq (.seq _ b) r))=>.seq b r
 |_=>.skip
theorem Kl (p:au) (q:aV) (sch:List Int) (vars:List Vb) (rows:List cK) (hv:vars.length<=1000000) (hr:rows.length<=100000) (hst:p.states.length<=1000) (A B:Nat->Co) (R Q:Nat->List cK) (j:Nat)
  (hAp:∀rs (x:Nat),ak Tryz.prog 169 [.ptr 200 0, .ptr 220 0, .int .i64 1, .int .i64 3, .int .i64 5, .int .i64 (x:Int), .int .i64 (j:Int)] (aj.ofL (eE p q sch vars rs zC 0))
   (fun u M=>u= .tup []/\M=aj.ofL (eE p q sch vars rs (A x) 0)))
  (hBp:∀rs (x:Nat),ak Tryz.prog 169 [.ptr 200 0, .ptr 220 0, .int .i64 1, .int .i64 4, .int .i64 6, .int .i64 (x:Int), .int .i64 (j:Int)] (aj.ofL (eE p q sch vars rs zC 0))
   (fun u M=>u= .tup []/\M=aj.ofL (eE p q sch vars rs (B x) 0)))
  (hRn:∀x,R (x+1)=R x++[aN vars (A x,0)]) (hQ0:Q 0=R p.states.length) (hQn:∀x,Q (x+1)=Q x++[aN vars (B x,0)])
  (hRl:∀x,x<=p.states.length->(R x).length<=102000) (hQl:∀x,x<=p.states.length->(Q x).length<=104000):
  cy Tryz.prog tt ((c9 p q sch vars rows).map (·.1)) (Kk Tryz.f95.body) ([.ptr 200 0, .int .i64 (j:Int)]++List.replicate 78 .top++[.int .i64 (p.states.length:Int), .int .i64 0]++List.replicate 54 .top) (aj.ofL (mH p q sch vars (R 0)))
   (GM tt Tryz.f95.results.toList (fun u M=>u= .tup []/\cU tv 400 M (mH p q sch vars (if gq p then Q p.states.length else R p.states.length)))):=by
 (conv=>whnf)
 refine aH.loopF ac ag (fun x:Nat=>x<=p.states.length) (fun x=>[(81, .int .i64 (x:Int))]) (fun x=>mH p q sch vars (R x)) (fun x=>p.states.length-x) 0 (Nat.zero_le _) ?_;conv=>whnf
 refine⟨aL.by_ tv _ 400 rfl (aa) (aa),?_⟩
 rintro x hx
 conv=>whnf
 refine ah ?_ ?_<;>(intro h2;conv=>whnf)
 ·as_aux_lemma=>
  have hl1:=hRl x (by omega)
  have hR1:=hRn x
  repeat' ((first|refine nI ?_|refine aI ?_|refine tI ?_|refine fI ?_|fail);conv=>whnf)
  refine ak.call CW (c9 p q sch vars (R x)) 400 rfl (aa) (aa) (xm p q sch vars (R x) hv) ?_
  rintro u M' ⟨rfl,rfl⟩
  refine⟨Hy++[(221, .old 221)],Hz 202 p q sch vars (R x)++[(221, .row 3 0 an (vars.map zC))], .agg [.row 221 vars.length 1, .int .i64 0],rfl,(aa),(aa),?_⟩
  conv=>whnf
  refine ak.call (CW++[(220, .old 7),(221, .old 221)]) (eE p q sch vars (R x) zC 0) 400 rfl (aa) (aa) (hAp (R x) x) ?_
  rintro u M' ⟨rfl,rfl⟩
  refine⟨Hy++[(7, .old 220),(221, .old 221)],Hz 202 p q sch vars (R x)++[(7, .box 154 [.row 221 vars.length 1, .int .i64 0]),(221, .row 3 0 an (vars.map (A x)))], .tup [],rfl,(aa),trivial,?_⟩
  conv=>whnf
  apply cA
  case k=>
   intro o1 o2 o3 o4 o5 o6
   refine kK [0,1,2,3,8,9] (by decide+kernel) ?_
   conv=>whnf
   repeat' first
    |exact True.intro
    |(refine And.intro ?_ ?_<;>conv=>whnf)
    |(refine bw bz bE [aN vars (A x,0)] rfl ?_;conv=>whnf)
    |(refine cb ?_;conv=>whnf)
    |(refine bD [aN vars (A x,0)] rfl (by clear o1 o2 o3 o4 o5 o6;simp only[List.length_cons,List.length_nil];omega) ?_;conv=>whnf)
    |with_reducible exact o1
    |with_reducible exact o2
    |with_reducible exact o3
    |with_reducible exact o4
    |with_reducible exact o5
    |with_reducible exact o6
    |fail
  all_goals try first
   |exact True.intro
   |exact True
  all_goals
   repeat' ((first|refine nI ?_|refine aI ?_|refine tI ?_|refine fI ?_|fail);conv=>whnf)
   refine⟨x+1,?_,by omega,by dsimp only;omega⟩
   dsimp only
   rw[hR1]
   exact aL.by_ [(200, .old 200),(201, .old 201),(202, .old 97),(210, .old 210),(211, .old 211),(212, .old 212),(213, .old 213),(214, .old 214),(215, .old 215),(216, .old 216)] _ 400 rfl (aa) (aa)
 ·obtain rfl:x=p.states.length:=by omega
  refine dC (hZ p q) (fun _=>?_) (fun _=>?_)<;>(conv=>whnf)
  ·rename_i hw
   rw[if_pos hw]
   refine aH.loopF ac ag (fun x:Nat=>x<=p.states.length) (fun x=>[(116, .int .i64 (x:Int))]) (fun x=>mH p q sch vars (Q x)) (fun x=>p.states.length-x) 0 (Nat.zero_le _) ?_;conv=>whnf
   refine⟨by rw[hQ0];exact aL.by_ tv _ 400 rfl (aa) (aa),?_⟩
   rintro x hx
   conv=>whnf
   refine ah ?_ ?_<;>(intro h2;conv=>whnf)
   ·as_aux_lemma=>
    have hl1:=hQl x (by omega)
    have hR1:=hQn x
    repeat' ((first|refine nI ?_|refine aI ?_|refine tI ?_|refine fI ?_|fail);conv=>whnf)
    refine ak.call CW (c9 p q sch vars (Q x)) 400 rfl (aa) (aa) (xm p q sch vars (Q x) hv) ?_
    rintro u M' ⟨rfl,rfl⟩
    refine⟨Hy++[(221, .old 221)],Hz 202 p q sch vars (Q x)++[(221, .row 3 0 an (vars.map zC))], .agg [.row 221 vars.length 1, .int .i64 0],rfl,(aa),(aa),?_⟩
    conv=>whnf
    refine ak.call (CW++[(220, .old 9),(221, .old 221)]) (eE p q sch vars (Q x) zC 0) 400 rfl (aa) (aa) (hBp (Q x) x) ?_
    rintro u M' ⟨rfl,rfl⟩
    refine⟨Hy++[(9, .old 220),(221, .old 221)],Hz 202 p q sch vars (Q x)++[(9, .box 154 [.row 221 vars.length 1, .int .i64 0]),(221, .row 3 0 an (vars.map (B x)))], .tup [],rfl,(aa),trivial,?_⟩
    conv=>whnf
    apply cA
    case k=>
     intro o1 o2 o3 o4 o5 o6
     refine kK [0,1,2,3,8,9] (by decide+kernel) ?_
     conv=>whnf
     repeat' first
      |exact True.intro
      |(refine And.intro ?_ ?_<;>conv=>whnf)
      |(refine bw bz bE [aN vars (B x,0)] rfl ?_;conv=>whnf)
      |(refine cb ?_;conv=>whnf)
      |(refine bD [aN vars (B x,0)] rfl (by clear o1 o2 o3 o4 o5 o6;simp only[List.length_cons,List.length_nil];omega) ?_;conv=>whnf)
      |with_reducible exact o1
      |with_reducible exact o2
      |with_reducible exact o3
      |with_reducible exact o4
      |with_reducible exact o5
      |with_reducible exact o6
      |fail
    all_goals try first
     |exact True.intro
     |exact True
    all_goals
     repeat' ((first|refine nI ?_|refine aI ?_|refine tI ?_|refine fI ?_|fail);conv=>whnf)
     refine⟨x+1,?_,by omega,by dsimp only;omega⟩
     dsimp only
     rw[hR1]
     exact aL.by_ [(200, .old 200),(201, .old 201),(202, .old 132),(210, .old 210),(211, .old 211),(212, .old 212),(213, .old 213),(214, .old 214),(215, .old 215),(216, .old 216)] _ 400 rfl (aa) (aa)
   ·obtain rfl:x=p.states.length:=by omega
    exact⟨rfl,(aa)⟩
  ·rename_i hw
   rw[if_neg hw]
   exact⟨rfl,(aa)⟩
theorem be {P:Program} {tt:TT} {draw:Option aM} {all r:List Oper} {o:Oper} {fr fr':List AV} {M:aj} {K:List AV->aj->Prop} (u:AV) (hg:o.guard=none)
  (h:∀K':AV->aj->Prop,K' u M->bc P tt draw o ((aJ o.op).map (db fr)) M K') (e:cB fr o.dst u=fr') (hk:dv P tt draw all r fr' M K):dv P tt draw all (o::r) fr M K:=by
 subst e
 simp only[dv]
 rw[bu]
 rw[hg]
 simp only[gv]
 exact h _ hk
theorem f6 {P:Program} {tt:TT} {all r:List Oper} {fr:List AV} {M:aj} {K:List AV->aj->Prop} {d:Option Tmp} {a:Operand} {xs:Array Operand} {ts:Array TypeId} {ty:TypeId} {ps:String} {af:Array Edge} {f:FuncId} {caps us:List AV}
  (ha:db fr a= .fn f caps) (hs:xs.toList.map (db fr)=us) (h:ak P f (us++caps) M fun u M'=>lh fr d u fun fr'=>dv P tt none all r fr' M' K):
  dv P tt none all ({dst:=d,op:=.call {callee:=.value a,args:=xs,argTypes:=ts},type:=ty,pos:=ps,after:=af,guard:=none}::r) fr M K:=by
 subst hs
 simp only[dv]
 rw[bu]
 simp only[gv,aJ,List.map_cons,ha,bc,mh]
 simp only[eT] at h
 exact h
theorem gt {P:Program} {tt:TT} {draw:Option aM} {all:List Oper} {fr:List AV} {M:aj} {K:List AV->aj->Prop} (h:K fr M):dv P tt draw all [] fr M K:=h
theorem fj {P:Program} {tt:TT} {D:List Nat} {a b:Code} {fr:List AV} {M:aj} {Q:fA} (h:cy P tt D a fr M fun e fr' M'=>match e with
  |.normal=>cy P tt D b fr' M' Q
  |.exit i=>Q (.exit i) fr' M'
  |.ret=>Q .ret fr' M'):cy P tt D (.seq a b) fr M Q:=h
theorem dN {P:Program} {tt:TT} {D:List Nat} {id:Nat} {ops:Array Oper} {fr:List AV} {M:aj} {Q:fA} (h:dv P tt none ops.toList ops.toList fr M (Q .normal)):cy P tt D (.region id ops false) fr M Q:=h
theorem CX {P:Program} {tt:TT} {draw:Option aM} {all r:List Oper} {fr frX:List AV} {M MX:aj} {K:List AV->aj->Prop} (h:∀K0:List AV->aj->Prop,K0 frX MX->dv P tt draw all r fr M K0) (hk:K frX MX):dv P tt draw all r fr M K:=h K hk
theorem zZ {P:Program} {tt:TT} {draw:Option aM} {all r:List Oper} {fr fr1 fr2:List AV} {M M1 M2:aj} {K:List AV->aj->Prop} {c:Prop} (h:∀K0:List AV->aj->Prop,(c->K0 fr1 M1)->(¬c->K0 fr2 M2)->dv P tt draw all r fr M K0) (hk1:c->K fr1 M1) (hk2:¬c->K fr2 M2):dv P tt draw all r fr M K:=h K hk1 hk2
theorem oh {P:Program} {tt:TT} {D:List Nat} {c:Operand} {x y:Code} {fr:List AV} {M:aj} {Q:fA} (hc:db fr c= .bool true) (h:cy P tt D x fr M Q):cy P tt D (.cond c x y) fr M Q:=by
 simp only[cy,sE,hc];exact h
theorem vF {P:Program} {tt:TT} {D:List Nat} {c:Operand} {x y:Code} {fr:List AV} {M:aj} {Q:fA} (hc:db fr c= .bool false) (h:cy P tt D y fr M Q):cy P tt D (.cond c x y) fr M Q:=by
 simp only[cy,sE,hc];exact h
theorem xn {P:Program} {tt:TT} {D:List Nat} {fr:List AV} {M:aj} {Q:fA} (h:Q .normal fr M):cy P tt D .skip fr M Q:=h
theorem Jb (b:Int):0+-1*b=-b:=by omega
theorem Km (p:au) (q:aV) (sch:List Int) (vars:List Vb) (rows:List cK) (hn:vars.Nodup) (hv:vars.length<=1000000) (hr:rows.length<=100000) (hst:p.states.length<=1000) (hrl:p.rules.length<=1000) (hsd:∀i,i<p.rules.length->(p.rules.getD i ar).send.length<=1000000)
  (hT:(aA p.rules).length<=10) (hg:∀g∈aA p.rules,(1<=g.coef/\g.coef<=100)/\c6 g.bound) (hsch:cM (aA p.rules).length sch) (j:Nat) (hj:j<=sch.length):
  ak Tryz.prog 95 [.ptr 200 0, .int .i64 (j:Int)] (aj.ofL (c9 p q sch vars rows))
   (fun u M=>u= .tup []/\M=aj.ofL (mH p q sch vars (rows++(jX p sch j).map (aN vars)))):=by
 have hsl:=cH hsch
 have z1:iY 1099511627776 zC:=jV (by omega)
 obtain⟨A,hA⟩:∃A:Nat->Co,A=fun(x:Nat)=>ba zC 1 (cW p.rules 3 5 x (j+1) 0):=⟨_,rfl⟩
 obtain⟨B,hB⟩:∃B:Nat->Co,B=fun(x:Nat)=>ba zC 1 (cW p.rules 4 6 x (j+1) 0):=⟨_,rfl⟩
 have hAp:∀rs (x:Nat),ak Tryz.prog 169 [.ptr 200 0, .ptr 220 0, .int .i64 1, .int .i64 3, .int .i64 5, .int .i64 (x:Int), .int .i64 (j:Int)] (aj.ofL (eE p q sch vars rs zC 0))
   (fun u M=>u= .tup []/\M=aj.ofL (eE p q sch vars rs (A x) 0)):=fun rs x=>by
  rw[hA];exact yx p q sch vars rs zC 0 hn hv 1 x 3 5 j (by omega) (by omega) (by omega) hrl z1 (by unfold bO;omega)
 have hBp:∀rs (x:Nat),ak Tryz.prog 169 [.ptr 200 0, .ptr 220 0, .int .i64 1, .int .i64 4, .int .i64 6, .int .i64 (x:Int), .int .i64 (j:Int)] (aj.ofL (eE p q sch vars rs zC 0))
   (fun u M=>u= .tup []/\M=aj.ofL (eE p q sch vars rs (B x) 0)):=fun rs x=>by
  rw[hB];exact yx p q sch vars rs zC 0 hn hv 1 x 4 6 j (by omega) (by omega) (by omega) hrl z1 (by unfold bO;omega)
 obtain⟨R,hR⟩:∃R:Nat->List cK,R=fun x=>rows++(if 0<j then[aN vars (nC p ((aA p.rules).getD (sch.getD (j-1) 0).toNat aE) j)] else[])++(List.range x).map fun x=>aN vars (A x,0):=⟨_,rfl⟩
 obtain⟨Q,hQ⟩:∃Q:Nat->List cK,Q=fun x=>R p.states.length++(List.range x).map fun x=>aN vars (B x,0):=⟨_,rfl⟩
 have hR0:0<j->R 0=rows++[aN vars (nC p ((aA p.rules).getD (sch.getD ((j:Int)-1).toNat 0).toNat aE) j)]:=fun h=>by
  rw[hR,show((j:Int)-1).toNat=j-1 by omega];simp only[if_pos h,List.range_zero,List.map_nil,List.append_nil]
 have hRz:¬0<j->R 0=rows:=fun h=>by
  rw[hR];simp only[if_neg h,List.range_zero,List.map_nil,List.append_nil]
 have hRn:∀x,R (x+1)=R x++[aN vars (A x,0)]:=fun x=>by
  rw[hR];simp only[List.range_succ,List.map_append,List.map_cons,List.map_nil,List.append_assoc]
 have hQ0:Q 0=R p.states.length:=by rw[hQ];simp
 have hQn:∀x,Q (x+1)=Q x++[aN vars (B x,0)]:=fun x=>by
  rw[hQ];simp only[List.range_succ,List.map_append,List.map_cons,List.map_nil,List.append_assoc]
 have hRl:∀x,x<=p.states.length->(R x).length<=102000:=fun x hx=>by
  have:(if 0<j then[aN vars (nC p ((aA p.rules).getD (sch.getD (j-1) 0).toNat aE) j)] else[]).length<=1:=by split<;>simp
  rw[hR];simp only[List.length_append,List.length_map,List.length_range];omega
 have hQl:∀x,x<=p.states.length->(Q x).length<=104000:=fun x hx=>by
  have:=hRl p.states.length (Nat.le_refl _)
  rw[hQ];simp only[List.length_append,List.length_map,List.length_range];omega
 have hend:rows++(jX p sch j).map (aN vars)=if gq p then Q p.states.length else R p.states.length:=by
  have e1:∀x:Nat,qS p 3 5 x j=(A x,0):=fun x=>by rw[hA];rfl
  have e2:∀x:Nat,qS p 4 6 x j=(B x,0):=fun x=>by rw[hB];rfl
  unfold jX
  simp only[e1,e2]
  by_cases h1:0<j<;>by_cases h2:gq p<;>simp[hQ,hR,h1,h2,List.map_map,Function.comp_def]
 rw[hend]
 clear hend hR hQ hA hB
 refine ak.renorm 400 (R:=fun u M=>u= .tup []/\cU tv 400 M (mH p q sch vars (if gq p then Q p.states.length else R p.states.length))) ?_ ?_
 case refine_2=>
  rintro u M ⟨rfl,hM⟩
  exact⟨tv,_, .tup [],rfl,hM,trivial,rfl,rfl⟩
 refine ak.intro ac ag (c9 p q sch vars rows) Tryz.func95 rfl (by decide) ?_
 conv=>whnf
 have hs0:=Kl p q sch vars rows hv hr hst A B R Q j hAp hBp hRn hQ0 hQn hRl hQl
 conv at hs0=>whnf
 refine ah ?_ ?_<;>(intro h1;conv=>whnf)
 rotate_left
 ·exact aH.sub (by rw[hRz (by omega)];exact aL.by_ Kh _ 400 rfl (aa) (aa)) hs0
 ·have h1:0<j:=by omega
  have hb1:=hsch ((j:Int)-1).toNat (by omega)
  refine Be rfl ?_
  conv=>whnf
  repeat' ((first|refine nI ?_|refine aI ?_|refine tI ?_|refine fI ?_|fail);conv=>whnf)
  have hR0:=hR0
  have hgm:=hg _ (aP (l:=aA p.rules) (k:=(sch.getD ((j:Int)-1).toNat 0).toNat) aE (by omega))
  generalize (aA p.rules).getD (sch.getD ((j:Int)-1).toNat 0).toNat aE=g at hR0 hgm⊢
  obtain⟨hgc,hgb⟩:=hgm
  have s1:=yy p q sch vars rows zC 0 hn hv g.coef g.message 5 j (by omega) (by omega) hrl hsd z1 (by unfold bO;omega)
  have c1:iY 1000 (ba zC g.coef (cX p.rules 5 g.message j 0)):=aC (f5 (jV (X:=0) (by omega)) (by unfold bO;omega) fun v=>by have:=rP p.rules 5 g.message j 0 v;omega) (by omega)
  have s2:=yy p q sch vars rows _ 0 hn hv g.coef g.message 6 j (by omega) (by omega) hrl hsd (aC c1 (by omega)) (by unfold bO;omega)
  have c2:iY 2000 (ba (ba zC g.coef (cX p.rules 5 g.message j 0)) g.coef (cX p.rules 6 g.message j 0)):=aC (f5 c1 (by unfold bO;omega) fun v=>by have:=rP p.rules 6 g.message j 0 v;omega) (by omega)
  have s3:=xl p q sch vars rows _ 0 hn hv 2 (by omega) 0 0 g.coef (aC c2 (by omega)) (by omega)
  have c3:=oM c2 ⟨2,0,0⟩ (k:=g.coef) (Y:=100) (by omega) (by omega)
  have l3:=zX p q sch vars rows _ 0 hn hv (-1) g.bound (aC c3 (by omega)) (by omega) (by unfold bO;omega) hgb
  have l2:=zX p q sch vars rows _ 0 hn hv (-1) g.bound (aC c2 (by omega)) (by omega) (by unfold bO;omega) hgb
  rw[Jb] at l3 l2
  have gA:p.fault=3->nC p g j=(ba (d6 (ba (ba zC g.coef (cX p.rules 5 g.message j 0)) g.coef (cX p.rules 6 g.message j 0)) ⟨2,0,0⟩ g.coef) (-1) (bf g.bound),-g.bound.c):=fun h=>by unfold nC;simp only[if_pos h]
  have gB:¬p.fault=3->nC p g j=(ba (ba (ba zC g.coef (cX p.rules 5 g.message j 0)) g.coef (cX p.rules 6 g.message j 0)) (-1) (bf g.bound),-g.bound.c):=fun h=>by unfold nC;simp only[if_neg h]
  clear c1 c2 c3
  generalize ba zC g.coef (cX p.rules 5 g.message j 0)=d1 at*
  generalize ba d1 g.coef (cX p.rules 6 g.message j 0)=d2 at*
  generalize d6 d2 ⟨2,0,0⟩ g.coef=d3 at*
  generalize ba d3 (-1) (bf g.bound)=e3 at*
  generalize ba d2 (-1) (bf g.bound)=e2 at*
  refine ak.call dh (c9 p q sch vars rows) 400 rfl (aa) (aa) (xm p q sch vars rows hv) ?_
  rintro u M' ⟨rfl,rfl⟩
  refine⟨dh++[(221, .old 221)],c9 p q sch vars rows++[(221, .row 3 0 an (vars.map zC))], .agg [.row 221 vars.length 1, .int .i64 0],rfl,(aa),(aa),?_⟩
  simp only[lh,lg]
  apply CX
  case h=>
   intro K0 h0
   conv=>whnf
   exact h0
  refine fj ?_
  refine dN ?_
  refine be (.ptr 200 0) rfl (fun K' h=>?_) rfl ?_
  ·conv=>whnf
   exact h
  refine be (.ptr 4 (0+1)) rfl (fun K' h=>?_) rfl ?_
  ·conv=>whnf
   exact h
  refine be (.int .i64 g.coef) rfl (fun K' h=>?_) rfl ?_
  ·conv=>whnf
   exact h
  refine be (.ptr 4 (0+0)) rfl (fun K' h=>?_) rfl ?_
  ·conv=>whnf
   exact h
  refine be (.int .i64 g.message) rfl (fun K' h=>?_) rfl ?_
  ·conv=>whnf
   exact h
  refine be (.int .i64 (j:Int)) rfl (fun K' h=>?_) rfl ?_
  ·conv=>whnf
   exact h
  refine f6 rfl rfl ?_
  refine ak.call (dh++[(220, .old 5),(221, .old 221)]) (eE p q sch vars rows zC 0) 400 rfl (aa) (aa) s1 ?_
  rintro u M' ⟨rfl,rfl⟩
  refine⟨dh++[(5, .old 220),(221, .old 221)],c9 p q sch vars rows++[(5, .box 154 [.row 221 vars.length 1, .int .i64 0]),(221, .row 3 0 an (vars.map d1))], .tup [],rfl,(aa),trivial,?_⟩
  simp only[lh,lg,cB,List.set]
  refine gt ?_
  refine fj ?_
  refine dN ?_
  refine be (.ptr 200 0) rfl (fun K' h=>?_) rfl ?_
  ·conv=>whnf
   exact h
  refine be (.ptr 4 (0+1)) rfl (fun K' h=>?_) rfl ?_
  ·conv=>whnf
   exact h
  refine be (.int .i64 g.coef) rfl (fun K' h=>?_) rfl ?_
  ·conv=>whnf
   exact h
  refine be (.ptr 4 (0+0)) rfl (fun K' h=>?_) rfl ?_
  ·conv=>whnf
   exact h
  refine be (.int .i64 g.message) rfl (fun K' h=>?_) rfl ?_
  ·conv=>whnf
   exact h
  refine be (.int .i64 (j:Int)) rfl (fun K' h=>?_) rfl ?_
  ·conv=>whnf
   exact h
  refine f6 rfl rfl ?_
  refine ak.call (dh++[(220, .old 5),(221, .old 221)]) (eE p q sch vars rows d1 0) 400 rfl (aa) (aa) s2 ?_
  rintro u M' ⟨rfl,rfl⟩
  refine⟨dh++[(5, .old 220),(221, .old 221)],c9 p q sch vars rows++[(5, .box 154 [.row 221 vars.length 1, .int .i64 0]),(221, .row 3 0 an (vars.map d2))], .tup [],rfl,(aa),trivial,?_⟩
  simp only[lh,lg,cB,List.set]
  refine gt ?_
  refine fj ?_
  refine fj ?_
  refine dN ?_
  apply zZ (c:=p.fault=3)
  case h=>
   intro K0 a b
   conv=>whnf
   refine ah (fun h=>?_) (fun h=>?_)
   ·conv=>whnf
    exact a h
   ·conv=>whnf
    exact b h
  ·intro h3
   refine oh rfl ?_
   refine dN ?_
   refine be (.ptr 200 0) rfl (fun K' h=>?_) rfl ?_
   ·conv=>whnf
    exact h
   refine be (.ptr 4 (0+1)) rfl (fun K' h=>?_) rfl ?_
   ·conv=>whnf
    exact h
   refine be (.int .i64 g.coef) rfl (fun K' h=>?_) rfl ?_
   ·conv=>whnf
    exact h
   refine f6 rfl rfl ?_
   refine ak.call (dh++[(220, .old 5),(221, .old 221)]) (eE p q sch vars rows d2 0) 400 rfl (aa) (aa) s3 ?_
   rintro u M' ⟨rfl,rfl⟩
   refine⟨dh++[(5, .old 220),(221, .old 221)],c9 p q sch vars rows++[(5, .box 154 [.row 221 vars.length 1, .int .i64 0]),(221, .row 3 0 an (vars.map d3))], .tup [],rfl,(aa),trivial,?_⟩
   simp only[lh,lg,cB,List.set]
   refine gt ?_
   refine fj ?_
   refine dN ?_
   refine be (.ptr 200 0) rfl (fun K' h=>?_) rfl ?_
   ·conv=>whnf
    exact h
   refine be (.ptr 4 (0+2)) rfl (fun K' h=>?_) rfl ?_
   ·conv=>whnf
    exact h
   refine be (.agg (bM g.bound)) rfl (fun K' h=>?_) rfl ?_
   ·conv=>whnf
    exact h
   refine f6 rfl rfl ?_
   refine ak.call (dh++[(220, .old 5),(221, .old 221)]) (eE p q sch vars rows d3 0) 400 rfl (aa) (aa) l3 ?_
   rintro u M' ⟨rfl,rfl⟩
   refine⟨dh++[(5, .old 220),(221, .old 221)],c9 p q sch vars rows++[(5, .box 154 [.row 221 vars.length 1, .int .i64 (-g.bound.c)]),(221, .row 3 0 an (vars.map e3))], .tup [],rfl,(aa),trivial,?_⟩
   simp only[lh,lg,cB,List.set]
   refine gt ?_
   conv=>whnf
   apply cA
   case k=>
    intro o1 o2 o3 o4 o5 o6
    refine kK [0,1,2,3,8,9] (by decide+kernel) ?_
    conv=>whnf
    repeat' first
     |exact True.intro
     |(refine And.intro ?_ ?_<;>conv=>whnf)
     |(refine bw bz bE [aN vars (e3,-g.bound.c)] rfl ?_;conv=>whnf)
     |(refine cb ?_;conv=>whnf)
     |(refine bD [aN vars (e3,-g.bound.c)] rfl (by clear o1 o2 o3 o4 o5 o6;simp only[List.length_cons,List.length_nil];omega) ?_;conv=>whnf)
     |with_reducible exact o1
     |with_reducible exact o2
     |with_reducible exact o3
     |with_reducible exact o4
     |with_reducible exact o5
     |with_reducible exact o6
     |fail
   all_goals try first
    |exact True.intro
    |exact True
   all_goals
    exact aH.sub (by rw[hR0 h1,gA h3];exact aL.by_ [(200, .old 200),(201, .old 201),(202, .old 69),(210, .old 210),(211, .old 211),(212, .old 212),(213, .old 213),(214, .old 214),(215, .old 215),(216, .old 216)] _ 400 rfl (aa) (aa)) hs0
  ·intro h3
   refine vF rfl ?_
   refine xn ?_
   refine fj ?_
   refine dN ?_
   refine be (.ptr 200 0) rfl (fun K' h=>?_) rfl ?_
   ·conv=>whnf
    exact h
   refine be (.ptr 4 (0+2)) rfl (fun K' h=>?_) rfl ?_
   ·conv=>whnf
    exact h
   refine be (.agg (bM g.bound)) rfl (fun K' h=>?_) rfl ?_
   ·conv=>whnf
    exact h
   refine f6 rfl rfl ?_
   refine ak.call (dh++[(220, .old 5),(221, .old 221)]) (eE p q sch vars rows d2 0) 400 rfl (aa) (aa) l2 ?_
   rintro u M' ⟨rfl,rfl⟩
   refine⟨dh++[(5, .old 220),(221, .old 221)],c9 p q sch vars rows++[(5, .box 154 [.row 221 vars.length 1, .int .i64 (-g.bound.c)]),(221, .row 3 0 an (vars.map e2))], .tup [],rfl,(aa),trivial,?_⟩
   simp only[lh,lg,cB,List.set]
   refine gt ?_
   conv=>whnf
   apply cA
   case k=>
    intro o1 o2 o3 o4 o5 o6
    refine kK [0,1,2,3,8,9] (by decide+kernel) ?_
    conv=>whnf
    repeat' first
     |exact True.intro
     |(refine And.intro ?_ ?_<;>conv=>whnf)
     |(refine bw bz bE [aN vars (e2,-g.bound.c)] rfl ?_;conv=>whnf)
     |(refine cb ?_;conv=>whnf)
     |(refine bD [aN vars (e2,-g.bound.c)] rfl (by clear o1 o2 o3 o4 o5 o6;simp only[List.length_cons,List.length_nil];omega) ?_;conv=>whnf)
     |with_reducible exact o1
     |with_reducible exact o2
     |with_reducible exact o3
     |with_reducible exact o4
     |with_reducible exact o5
     |with_reducible exact o6
     |fail
   all_goals try first
    |exact True.intro
    |exact True
   all_goals
    exact aH.sub (by rw[hR0 h1,gB h3];exact aL.by_ [(200, .old 200),(201, .old 201),(202, .old 69),(210, .old 210),(211, .old 211),(212, .old 212),(213, .old 213),(214, .old 214),(215, .old 215),(216, .old 216)] _ 400 rfl (aa) (aa)) hs0
theorem Jc (p:au) (q:aV) (sch:List Int) (vars:List Vb) (rows:List cK) (hn:vars.Nodup) (hv:vars.length<=1000000) (hr:rows.length<=1000000) (hrl:p.rules.length<=1000) (hsl:sch.length<=10) (states:List Int) (hsts:states.length<=10000) (least:Int) (hls:0<=least/\least<=1000):
  ak Tryz.prog 170 [.ptr 200 0, .sl 0 an states, .int .i64 least] (aj.ofL (c9 p q sch vars rows))
   (fun u M=>u= .tup []/\M=aj.ofL (mH p q sch vars (rows++[aN vars (qT p sch.length states least)]))):=by
 obtain⟨F,hF⟩:∃F:Nat->Co,F=fun x=>(states.take x).foldl (fun c x=>ba c 1 (cW p.rules 3 5 x (sch.length+1) 0)) zC:=⟨_,rfl⟩
 have hF0:F 0=zC:=by rw[hF];rfl
 have hFn:∀x,x<states.length->F (x+1)=ba (F x) 1 (cW p.rules 3 5 (states.getD (x:Int).toNat 0) (sch.length+1) 0):=fun x hx=>by
  rw[hF,tN]
  dsimp only
  rw[List.take_succ_eq_append_getElem hx,List.foldl_append,ay 0 hx]
  rfl
 have hFb:∀x,x<=states.length->iY (200*x) (F x):=by
  intro x
  induction x with
  |zero=>intro _;rw[hF0];exact jV (by omega)
  |succ x ih=>
   intro hx
   rw[hFn x (by omega)]
   exact aC (f5 (ih (by omega)) (by unfold bO;omega) fun v=>by have:=BZ p.rules 3 5 (states.getD (x:Int).toNat 0) (sch.length+1) 0 v;omega) (by omega)
 have hend:qT p sch.length states least=(F states.length,0-least):=by
  rw[hF];dsimp only;rw[List.take_length,Int.zero_sub];rfl
 rw[hend]
 have hp:∀x,x<states.length->ak Tryz.prog 169 [.ptr 200 0, .ptr 220 0, .int .i64 1, .int .i64 3, .int .i64 5, .int .i64 (states.getD (x:Int).toNat 0), .int .i64 (sch.length:Int)] (aj.ofL (eE p q sch vars rows (F x) 0))
   (fun u M=>u= .tup []/\M=aj.ofL (eE p q sch vars rows (F (x+1)) 0)):=fun x hx=>by
  rw[hFn x hx]
  exact yx p q sch vars rows (F x) 0 hn hv 1 (states.getD (x:Int).toNat 0) 3 5 sch.length (by omega) (by omega) (by omega) hrl (aC (hFb x (by omega)) (by omega)) (by unfold bO;omega)
 clear hend hFn hFb hF
 refine ak.renorm 400 (R:=fun u M=>u= .tup []/\cU ((202, .old 38)::dh) 400 M (mH p q sch vars (rows++[aN vars (F states.length,0-least)]))) ?_ ?_
 case refine_2=>
  rintro u M ⟨rfl,hM⟩
  exact⟨(202, .old 38)::dh,_, .tup [],rfl,hM,trivial,rfl,rfl⟩
 refine ak.intro ac ag (c9 p q sch vars rows) Tryz.func170 rfl (by decide) ?_
 conv=>whnf
 refine ak.call dh (c9 p q sch vars rows) 400 rfl (aa) (aa) (xm p q sch vars rows hv) ?_
 rintro u M' ⟨rfl,rfl⟩
 refine⟨dh++[(221, .old 221)],c9 p q sch vars rows++[(221, .row 3 0 an (vars.map zC))], .agg [.row 221 vars.length 1, .int .i64 0],rfl,(aa),(aa),?_⟩
 conv=>whnf
 refine aH.loopF ac ag (fun x:Nat=>x<=states.length) (fun x=>[(13, .int .i64 (x:Int))]) (fun x=>c9 p q sch vars rows++[(6, .box 154 [.row 221 vars.length 1, .int .i64 0]),(221, .row 3 0 an (vars.map (F x)))]) (fun x=>states.length-x) 0 (Nat.zero_le _) ?_;conv=>whnf
 refine⟨by rw[hF0];exact aL.by_ (dh++[(6, .old 6),(221, .old 221)]) _ 400 rfl (aa) (aa),?_⟩
 rintro x hx
 conv=>whnf
 refine ah ?_ ?_<;>(intro h1;conv=>whnf)
 ·have hp1:=hp x (by omega)
  repeat' ((first|refine nI ?_|refine aI ?_|refine tI ?_|refine fI ?_|fail);conv=>whnf)
  refine ak.call (dh++[(220, .old 6),(221, .old 221)]) (eE p q sch vars rows (F x) 0) 400 rfl (aa) (aa) hp1 ?_
  rintro u M' ⟨rfl,rfl⟩
  refine⟨dh++[(6, .old 220),(221, .old 221)],c9 p q sch vars rows++[(6, .box 154 [.row 221 vars.length 1, .int .i64 0]),(221, .row 3 0 an (vars.map (F (x+1))))], .tup [],rfl,(aa),trivial,?_⟩
  conv=>whnf
  repeat' ((first|refine nI ?_|refine aI ?_|refine tI ?_|refine fI ?_|fail);conv=>whnf)
  refine⟨x+1,?_,by omega,by dsimp only;omega⟩
  exact aL.by_ (dh++[(6, .old 6),(221, .old 221)]) _ 400 rfl (aa) (aa)
 ·obtain rfl:x=states.length:=by omega
  repeat' ((first|refine nI ?_|refine aI ?_|refine tI ?_|refine fI ?_|fail);conv=>whnf)
  as_aux_lemma=>
  refine kK [0,1,2,3,8,9] (by decide+kernel) ?_
  conv=>whnf
  repeat' first
   |exact True.intro
   |(refine And.intro ?_ ?_<;>conv=>whnf)
   |(refine bw bz bE [aN vars (F states.length,0-least)] rfl ?_;conv=>whnf)
   |(refine cb ?_;conv=>whnf)
   |(refine bD [aN vars (F states.length,0-least)] rfl lI ?_;conv=>whnf)
   |exact rfl
   |exact(List.length_append ..).symm
   |fail
theorem Kn (p:au) (q:aV) (sch:List Int) (vars:List Vb) (rows:List cK) (hn:vars.Nodup) (hv:vars.length<=1000000) (hr:rows.length<=1000000) (hrl:p.rules.length<=1000) (hsd:∀i,i<p.rules.length->(p.rules.getD i ar).send.length<=1000000) (hsl:sch.length<=9)
  (i:Nat) (hi:i<p.rules.length) (hg:∀g∈(p.rules.getD i ar).guards,(1<=g.coef/\g.coef<=100)/\c6 g.bound) (hgl:(p.rules.getD i ar).guards.length<=1000) (ch:Int) (hc:0<=ch/\ch<=(p.rules.getD i ar).guards.length):
  ak Tryz.prog 172 [.ptr 200 0, .int .i64 (i:Int), .int .i64 ch] (aj.ofL (c9 p q sch vars rows))
   (fun u M=>u= .tup []/\M=aj.ofL (mH p q sch vars (rows++[aN vars (ot p sch.length (p.rules.getD i ar) ch)]))):=by
 have z1:iY 1099511627776 zC:=jV (by omega)
 refine ak.renorm 400 (R:=fun u M=>u= .tup []/\cU ((202, .old 97)::dh) 400 M (mH p q sch vars (rows++[aN vars (ot p sch.length (p.rules.getD i ar) ch)]))) ?_ ?_
 case refine_2=>
  rintro u M ⟨rfl,hM⟩
  exact⟨(202, .old 97)::dh,_, .tup [],rfl,hM,trivial,rfl,rfl⟩
 refine ak.intro ac ag (c9 p q sch vars rows) Tryz.func172 rfl (by decide) ?_
 conv=>whnf
 refine ak.call dh (c9 p q sch vars rows) 400 rfl (aa) (aa) (xm p q sch vars rows hv) ?_
 rintro u M' ⟨rfl,rfl⟩
 refine⟨dh++[(221, .old 221)],c9 p q sch vars rows++[(221, .row 3 0 an (vars.map zC))], .agg [.row 221 vars.length 1, .int .i64 0],rfl,(aa),(aa),?_⟩
 conv=>whnf
 refine ah ?_ ?_<;>(intro h1;conv=>whnf)
 ·subst h1
  have hp:=yx p q sch vars rows zC 0 hn hv (-1) (p.rules.getD (i:Int).toNat ar).src 3 5 sch.length (by omega) (by omega) (by omega) hrl z1 (by unfold bO;omega)
  have e:ot p sch.length (p.rules.getD i ar) 0=(ba zC (-1) (cW p.rules 3 5 (p.rules.getD (i:Int).toNat ar).src (sch.length+1) 0),0):=by unfold ot;rw[if_pos rfl,tN]
  rw[e]
  generalize ba zC (-1) (cW p.rules 3 5 (p.rules.getD (i:Int).toNat ar).src (sch.length+1) 0)=d at*
  clear e
  refine Bg .any [30] (by decide+kernel) ?_
  conv=>whnf
  repeat' ((first|refine nI ?_|refine aI ?_|refine tI ?_|refine fI ?_|fail);conv=>whnf)
  refine ak.call (dh++[(220, .old 6),(221, .old 221)]) (eE p q sch vars rows zC 0) 400 rfl (aa) (aa) hp ?_
  rintro u M' ⟨rfl,rfl⟩
  refine⟨dh++[(6, .old 220),(221, .old 221)],c9 p q sch vars rows++[(6, .box 154 [.row 221 vars.length 1, .int .i64 0]),(221, .row 3 0 an (vars.map d))], .tup [],rfl,(aa),trivial,?_⟩
  conv=>whnf
  repeat' ((first|refine nI ?_|refine aI ?_|refine tI ?_|refine fI ?_|fail);conv=>whnf)
  as_aux_lemma=>
  refine kK [0,1,2,3,8,9] (by decide+kernel) ?_
  conv=>whnf
  repeat' first
   |exact True.intro
   |(refine And.intro ?_ ?_<;>conv=>whnf)
   |(refine bw bz bE [aN vars (d,0)] rfl ?_;conv=>whnf)
   |(refine cb ?_;conv=>whnf)
   |(refine bD [aN vars (d,0)] rfl lI ?_;conv=>whnf)
   |exact rfl
   |exact(List.length_append ..).symm
   |fail
 ·repeat' ((first|refine nI ?_|refine aI ?_|refine tI ?_|refine fI ?_|fail);conv=>whnf)
  have hgm:=hg _ (aP (l:=(p.rules.getD i ar).guards) (k:=(ch-1).toNat) aE (by omega))
  have e0:=ot.eq_1 p sch.length (p.rules.getD i ar) ch
  rw[if_neg h1] at e0
  rw[e0]
  clear e0
  rw[tN]
  dsimp only
  generalize (p.rules.getD i ar).guards.getD (ch-1).toNat aE=g at hgm⊢
  repeat' ((first|refine nI ?_|refine aI ?_|refine tI ?_|refine fI ?_|fail);conv=>whnf)
  obtain⟨hgc,hgb⟩:=hgm
  have s1:=yy p q sch vars rows zC 0 hn hv (-g.coef) g.message 5 (sch.length+1) (by omega) (by omega) hrl hsd z1 (by unfold bO;omega)
  have c1:iY 1000 (ba zC (-g.coef) (cX p.rules 5 g.message (sch.length+1) 0)):=aC (f5 (jV (X:=0) (by omega)) (by unfold bO;omega) fun v=>by have:=rP p.rules 5 g.message (sch.length+1) 0 v;omega) (by omega)
  have s2:=yy p q sch vars rows _ 0 hn hv (-g.coef) g.message 6 (sch.length+1) (by omega) (by omega) hrl hsd (aC c1 (by omega)) (by unfold bO;omega)
  have c2:iY 2000 (ba (ba zC (-g.coef) (cX p.rules 5 g.message (sch.length+1) 0)) (-g.coef) (cX p.rules 6 g.message (sch.length+1) 0)):=aC (f5 c1 (by unfold bO;omega) fun v=>by have:=rP p.rules 6 g.message (sch.length+1) 0 v;omega) (by omega)
  have l1:=zX p q sch vars rows _ 0 hn hv 1 g.bound (aC c1 (by omega)) (by omega) (by unfold bO;omega) hgb
  have l2:=zX p q sch vars rows _ 0 hn hv 1 g.bound (aC c2 (by omega)) (by omega) (by unfold bO;omega) hgb
  rw[show(0:Int)+1*g.bound.c=g.bound.c by omega] at l1 l2
  clear c1 c2
  generalize ba zC (-g.coef) (cX p.rules 5 g.message (sch.length+1) 0)=d1 at*
  generalize ba d1 (-g.coef) (cX p.rules 6 g.message (sch.length+1) 0)=d2 at*
  have hgc2:=hgb.1
  unfold bO at hgc2
  refine Bg .any [59] (by decide+kernel) ?_
  conv=>whnf
  repeat' ((first|refine nI ?_|refine aI ?_|refine tI ?_|refine fI ?_|fail);conv=>whnf)
  refine ak.call (dh++[(220, .old 6),(221, .old 221)]) (eE p q sch vars rows zC 0) 400 rfl (aa) (aa) s1 ?_
  rintro u M' ⟨rfl,rfl⟩
  refine⟨dh++[(6, .old 220),(221, .old 221)],c9 p q sch vars rows++[(6, .box 154 [.row 221 vars.length 1, .int .i64 0]),(221, .row 3 0 an (vars.map d1))], .tup [],rfl,(aa),trivial,?_⟩
  conv=>whnf
  refine ah ?_ ?_<;>(intro h3;conv=>whnf)
  ·simp only[if_pos h3]
   generalize ba d2 1 (bf g.bound)=e2 at*
   refine Bg .any [81] (by decide+kernel) ?_
   conv=>whnf
   repeat' ((first|refine nI ?_|refine aI ?_|refine tI ?_|refine fI ?_|fail);conv=>whnf)
   refine ak.call (dh++[(220, .old 6),(221, .old 221)]) (eE p q sch vars rows d1 0) 400 rfl (aa) (aa) s2 ?_
   rintro u M' ⟨rfl,rfl⟩
   refine⟨dh++[(6, .old 220),(221, .old 221)],c9 p q sch vars rows++[(6, .box 154 [.row 221 vars.length 1, .int .i64 0]),(221, .row 3 0 an (vars.map d2))], .tup [],rfl,(aa),trivial,?_⟩
   conv=>whnf
   refine ak.call (dh++[(220, .old 6),(221, .old 221)]) (eE p q sch vars rows d2 0) 400 rfl (aa) (aa) l2 ?_
   rintro u M' ⟨rfl,rfl⟩
   refine⟨dh++[(6, .old 220),(221, .old 221)],c9 p q sch vars rows++[(6, .box 154 [.row 221 vars.length 1, .int .i64 g.bound.c]),(221, .row 3 0 an (vars.map e2))], .tup [],rfl,(aa),trivial,?_⟩
   conv=>whnf
   repeat' ((first|refine nI ?_|refine aI ?_|refine tI ?_|refine fI ?_|fail);conv=>whnf)
   as_aux_lemma=>
   refine kK [0,1,2,3,8,9] (by decide+kernel) ?_
   conv=>whnf
   repeat' first
    |exact True.intro
    |(refine And.intro ?_ ?_<;>conv=>whnf)
    |(refine bw bz bE [aN vars (e2,g.bound.c-1)] rfl ?_;conv=>whnf)
    |(refine cb ?_;conv=>whnf)
    |(refine bD [aN vars (e2,g.bound.c-1)] rfl lI ?_;conv=>whnf)
    |exact rfl
    |exact(List.length_append ..).symm
    |fail
  ·simp only[if_neg h3]
   generalize ba d1 1 (bf g.bound)=e2 at*
   refine ak.call (dh++[(220, .old 6),(221, .old 221)]) (eE p q sch vars rows d1 0) 400 rfl (aa) (aa) l1 ?_
   rintro u M' ⟨rfl,rfl⟩
   refine⟨dh++[(6, .old 220),(221, .old 221)],c9 p q sch vars rows++[(6, .box 154 [.row 221 vars.length 1, .int .i64 g.bound.c]),(221, .row 3 0 an (vars.map e2))], .tup [],rfl,(aa),trivial,?_⟩
   conv=>whnf
   repeat' ((first|refine nI ?_|refine aI ?_|refine tI ?_|refine fI ?_|fail);conv=>whnf)
   as_aux_lemma=>
   refine kK [0,1,2,3,8,9] (by decide+kernel) ?_
   conv=>whnf
   repeat' first
    |exact True.intro
    |(refine And.intro ?_ ?_<;>conv=>whnf)
    |(refine bw bz bE [aN vars (e2,g.bound.c-1)] rfl ?_;conv=>whnf)
    |(refine cb ?_;conv=>whnf)
    |(refine bD [aN vars (e2,g.bound.c-1)] rfl lI ?_;conv=>whnf)
    |exact rfl
    |exact(List.length_append ..).symm
    |fail
end Go.Proofs.YtnjggjhkfncnlaaGreatDoor
