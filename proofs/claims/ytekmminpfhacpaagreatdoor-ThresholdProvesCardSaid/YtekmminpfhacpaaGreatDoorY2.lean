import Derived.Test.YtekmminpfhacpaaGreatDoorY1
set_option linter.unusedVariables false
set_option linter.unusedSimpArgs false
namespace Go.Proofs.YtekmminpfhacpaaGreatDoor
set_option maxRecDepth 100000
set_option maxHeartbeats 16000000
def bA (A B:List Int) (x:Nat):List Int:=B.take x++A.drop x
theorem jn (A B:List Int):bA A B 0=A:=by simp[bA]
theorem kP {A B:List Int} (h:A.length=B.length):bA A B A.length=B:=by simp[bA,h]
theorem mV {A B:List Int} (h:A.length=B.length) (x:Nat):(bA A B x).length=A.length:=by
 unfold bA
 rw[List.length_append,List.length_take,List.length_drop];omega
theorem jF {A B:List Int} (h:A.length=B.length) {x:Nat} (hx:x<A.length):(bA A B x).getD x 0=A.getD x 0:=by
 unfold bA
 rw[gD,List.getElem?_append_right (by rw[List.length_take];omega),List.length_take,List.getElem?_drop,gD]
 congr 2
 omega
theorem kQ {A B:List Int} (h:A.length=B.length) {x:Nat} (hx:x<A.length):(bA A B x).set x (B.getD x 0)=bA A B (x+1):=by
 unfold bA
 have hl:(B.take x).length=x:=by rw[List.length_take];omega
 rw[List.set_append_right _ _ (by omega),hl,Nat.sub_self,List.drop_eq_getElem_cons hx,List.set_cons_zero,List.take_succ_eq_append_getElem (by omega),ap 0 (by omega),List.append_assoc]
 rfl
theorem Pa (A B D:List Int) (c d k:Int) (hA:A.length=B.length) (hD:D.length=A.length) (hl:A.length<=1000000) (hB:∀x,x<A.length->B.getD x 0=A.getD x 0+k*D.getD x 0)
  (hk:-100<=k/\k<=100) (ha:∀x,x<A.length->-1000000<=A.getD x 0/\A.getD x 0<=1000000) (hd:∀x,x<A.length->-1000000<=k*D.getD x 0/\k*D.getD x 0<=1000000) (hc:-1000000<=c/\c<=1000000) (hkd:-1000000<=k*d/\k*d<=1000000):
  ah Tryz.prog 120 [.agg [.sl 0 al A, .int .i64 c], .agg [.sl 0 al D, .int .i64 d], .int .i64 k] (fun u=>u= .agg [.sl 0 al B, .int .i64 (c+k*d)]):=by
 refine ah.intro ab ac Tryz.func120 rfl (by decide) ?_;(conv=>whnf)
 refine au rfl ?_
 conv=>whnf
 refine au rfl ?_
 conv=>whnf
 apply c5
 case k=>
  intro o1 o2 o3 o4 o5 o6
  refine fC [1,2,4,5,6,7,8,11] (by decide+kernel) ?_
  conv=>whnf
  repeat' first
   |exact True.intro
   |(refine And.intro ?_ ?_<;>conv=>whnf)
   |(refine bp 0 al [] rfl ?_;conv=>whnf)
   |(refine bU ?_;conv=>whnf)
   |(refine nK trivial (by clear o1 o2 o3 o4 o5 o6;omega) ?_;conv=>whnf)
   |(refine bq A rfl (by clear o1 o2 o3 o4 o5 o6;simp only[List.length_nil];omega) ?_;conv=>whnf)
   |with_reducible assumption
   |fail
 all_goals try first
  |exact True.intro
  |exact True
 all_goals
  refine aJ.loopF ab ac (fun x:Nat=>x<=A.length) (fun x=>[(9, .top),(8, .int .i64 (x:Int))]) (fun x=>[(6, .box 161 [.nilsl, .int .i64 0]),(7, .box 161 [.row 12 A.length 1, .int .i64 (c+k*d)]),(12, .row 3 0 al (bA A B x))]) (fun x=>A.length-x) 0 (Nat.zero_le _) ?_;conv=>whnf
  refine⟨by rw[jn];exact aH.by_ [(6, .old 6),(7, .old 7),(12, .old 12)] _ 400 rfl (aa) (aa),?_⟩
  rintro x hx
  conv=>whnf
  refine ae ?_ ?_<;>(intro h1;conv=>whnf)
  ·have hxl:x<A.length:=by omega
   have e2:-1000000<=(bA A B x).getD (x:Int).toNat 0/\(bA A B x).getD (x:Int).toNat 0<=1000000:=by rw[tN,jF hA hxl];exact ha x hxl
   have e3:-1000000<=k*D.getD (x:Int).toNat 0/\k*D.getD (x:Int).toNat 0<=1000000:=by rw[tN];exact hd x hxl
   have e5:(bA A B x).set (x:Int).toNat ((bA A B x).getD (x:Int).toNat 0+k*D.getD (x:Int).toNat 0)=bA A B (x+1):=by
    rw[tN,jF hA hxl,<-hB x hxl,kQ hA hxl]
   refine dI ?_
   conv=>whnf
   repeat' first|refine dt ?_;conv=>whnf|fail
   refine ak ((bA A B x).getD (x:Int).toNat 0+k*D.getD (x:Int).toNat 0) rfl ?_
   rw[e5]
   conv=>whnf
   repeat' first|refine dt ?_;conv=>whnf|fail
   refine⟨x+1,?_,by omega,by dsimp only;omega⟩
   exact aH.by_ [(6, .old 6),(7, .old 7),(12, .old 12)] _ 400 rfl (aa) (aa)
  ·obtain rfl:x=A.length:=by omega
   rw[kP hA]
   exact⟨rfl,rfl⟩
theorem Qw (vars:List Vb) (a b:Co) (c d k:Int) (hl:vars.length<=1000000) (hk:-100<=k/\k<=100) (ha:ko 1000000 a) (hb:ko 10000 b) (hc:-1000000<=c/\c<=1000000) (hd:-10000<=d/\d<=10000):
  ah Tryz.prog 120 [.agg [.sl 0 al (vars.map a), .int .i64 c], .agg [.sl 0 al (vars.map b), .int .i64 d], .int .i64 k] (fun u=>u= .agg [.sl 0 al (vars.map (bo a k b)), .int .i64 (c+k*d)]):=by
 have hm:∀y:Int,-10000<=y/\y<=10000->-1000000<=k*y/\k*y<=1000000:=fun y hy=>by
  have:=xb (A:=100) (B:=10000) hk hy
  omega
 refine Pa (vars.map a) (vars.map (bo a k b)) (vars.map b) c d k (by simp) (by simp) (by simpa using hl) (fun x hx=>?_) hk (fun x hx=>?_) (fun x hx=>?_) hc (hm d hd)
 ·rw[List.length_map] at hx
  rw[df _ hx,df _ hx,df _ hx];rfl
 ·rw[List.length_map] at hx
  rw[df _ hx];exact ha _
 ·rw[List.length_map] at hx
  rw[df _ hx];exact hm _ (hb _)
abbrev Nu (p:av) (vars:List Vb) (lr nr:Nat):List AV:=[.str p.name, .int .i64 p.topology, .sl t0 fo p.states, .sl t0 fo p.messages, .sl t0 fo p.values, .int .i64 p.fault, .sl eX cq p.resilience, .sl 0 al p.initial, .sl 0 al p.leader, .sl ax iL p.rules, .sl d8 fM vars, .row lr nr 2]
abbrev cU (p:av) (vars:List Vb) (rows:List aV):List (Nat×bf):=[(200, .box 127 (Nu p vars 201 rows.length)),(201, .row 161 ar aw rows)]
theorem DE (p:av) (vars:List Vb) (rows:List aV) (hv:vars.length<=1000000):
  aj Tryz.prog 122 [.ptr 200 0] (ag.ofL (cU p vars rows)) (fun u M=>u= .agg [.sl 0 al (vars.map zC), .int .i64 0]/\M=ag.ofL (cU p vars rows)):=by
 rw[<-py]
 refine aj.idn rfl (aa) ?_
 refine aj.introL ab ac (cU p vars rows) Tryz.func122 rfl (by decide) ?_
 conv=>whnf
 refine x7 0 al 0 rfl (by dsimp only;omega) ?_
 conv=>whnf
 exact⟨rfl,(aa)⟩
def fg:bc:=[(200, .old 200),(201, .old 201)]
theorem wu (p:av) (vars:List Vb) (rows:List aV) (hv:vars.length<=1000000):
  aj Tryz.prog 122 [.ptr 200 0] (ag.ofL (cU p vars rows)) (fun u M=>u= .agg [.row 221 vars.length 1, .int .i64 0]/\M=ag.ofL (cU p vars rows++[(221, .row 3 0 al (vars.map zC))])):=by
 rw[<-py]
 refine aj.renorm 400 (R:=fun u M=>u= .agg [.row 8 vars.length 1, .int .i64 0]/\bG (fg++[(221, .old 8)]) 400 M (cU p vars rows++[(221, .row 3 0 al (List.replicate vars.length (0:Int)))])) ?_ ?_
 case refine_2=>
  rintro u M ⟨rfl,hM⟩
  exact⟨fg++[(221, .old 8)],_,_,rfl,hM,(aa),rfl,rfl⟩
 refine aj.intro ab ac (cU p vars rows) Tryz.func122 rfl (by decide) ?_
 conv=>whnf
 refine x7 0 al 0 rfl (by dsimp only;omega) ?_
 conv=>whnf
 exact⟨rfl,(aa)⟩
theorem DF (p:av) (q:aP) (sch:List Int) (rows:List aV) (hq:bD p q=0) (hs:dS (ay p.rules).length sch) (l:lp):
  aj Tryz.prog 119 [.ptr 200 0, .agg (cq l)] (ag.ofL (cU p (az p q sch) rows)) (fun u M=>u= .agg [.sl 0 al ((az p q sch).map (bH l)), .int .i64 l.c]/\M=ag.ofL (cU p (az p q sch) rows)):=by
 have hv:=iE hq hs
 have hr:=JN (sch:=sch) hq l
 have h3:3<=(az p q sch).length:=by unfold az;rw[List.length_append,List.length_append];simp only[List.length_cons,List.length_nil];omega
 have hz:(az p q sch).map zC=[0,0,0]++List.replicate ((az p q sch).length-3) 0:=by
  rw[<-py,show([0,0,0]:List Int)=List.replicate 3 0 from rfl,List.replicate_append_replicate]
  congr 1;omega
 have hrow:=wu p (az p q sch) rows (by omega)
 rw[hr]
 rw[hz] at hrow
 generalize az p q sch=vars at*
 generalize List.replicate (vars.length-3) (0:Int)=Z at*
 refine aj.idn rfl (aa) ?_
 refine aj.introL ab ac (cU p vars rows) Tryz.func119 rfl (by decide) ?_
 simp only[eJ]
 rw[show Tryz.f119.ntmps=27 from rfl]
 simp only[bX]
 simp only[cF]
 rw[be]
 simp only[gv,aG,List.map_cons,List.map_nil,aZ]
 conv=>whnf
 refine au rfl ?_
 conv=>whnf
 refine aj.call fg (cU p vars rows) 400 rfl (aa) (aa) hrow ?_
 rintro u M' ⟨rfl,rfl⟩
 refine⟨fg++[(221, .old 221)],cU p vars rows++[(221, .row 3 0 al ([0,0,0]++Z))], .agg [.row 221 vars.length 1, .int .i64 0],rfl,(aa),(aa),?_⟩
 conv=>whnf
 refine nI ?_
 conv=>whnf
 refine ak l.n rfl ?_
 conv=>whnf
 refine nI ?_
 conv=>whnf
 refine ak l.t rfl ?_
 conv=>whnf
 refine nI ?_
 conv=>whnf
 refine ak l.f rfl ?_
 conv=>whnf
 exact⟨rfl,(aa)⟩
theorem Pb (p:av) (vars:List Vb) (rows:List aV) (hv:vars.length<=1000000) (kind:Int):
  aj Tryz.prog 121 [.ptr 200 0, .int .i64 kind] (ag.ofL (cU p vars rows)) (fun u M=>u= .agg [.sl 0 al (vars.map (x9 kind)), .int .i64 0]/\M=ag.ofL (cU p vars rows)):=by
 have hrow:=wu p vars rows hv
 have hl:(vars.map zC).length=(vars.map (x9 kind)).length:=by simp
 have hA:(vars.map zC).length=vars.length:=by simp
 have hg:∀x:Nat,x<vars.length->(vars.map zC).getD x 0=0:=fun x hx=>by rw[df _ hx];rfl
 have hB:∀x:Nat,x<vars.length->(vars.map (x9 kind)).getD x 0=if(vars.getD (x:Int).toNat d8).kind=kind then 1 else 0:=fun x hx=>by rw[df _ hx,tN];rfl
 generalize vars.map (x9 kind)=B at*
 generalize vars.map zC=A at*
 refine aj.idn rfl (aa) ?_
 refine aj.introL ab ac (cU p vars rows) Tryz.func121 rfl (by decide) ?_
 conv=>whnf
 refine aj.call fg (cU p vars rows) 400 rfl (aa) (aa) hrow ?_
 rintro u M' ⟨rfl,rfl⟩
 refine⟨fg++[(221, .old 221)],cU p vars rows++[(221, .row 3 0 al A)], .agg [.row 221 vars.length 1, .int .i64 0],rfl,(aa),(aa),?_⟩
 conv=>whnf
 refine aJ.loopF ab ac (fun x:Nat=>x<=vars.length) (fun x=>[(6, .int .i64 (x:Int))]) (fun x=>cU p vars rows++[(4, .box 161 [.nilsl, .int .i64 0]),(5, .box 161 [.row 221 vars.length 1, .int .i64 0]),(221, .row 3 0 al (bA A B x))]) (fun x=>vars.length-x) 0 (Nat.zero_le _) ?_;conv=>whnf
 refine⟨by rw[jn];exact aH.by_ (fg++[(4, .old 4),(5, .old 5),(221, .old 221)]) _ 400 rfl (aa) (aa),?_⟩
 rintro x hx
 conv=>whnf
 refine ae ?_ ?_<;>(intro h1;conv=>whnf)
 ·have hxl:x<vars.length:=by omega
  have e5:=kQ hl (show x<A.length by omega)
  have e4:=jF hl (show x<A.length by omega)
  have e6:=mV hl x
  rw[hB x hxl] at e5
  repeat' first|refine dt ?_;conv=>whnf|fail
  refine ae ?_ ?_<;>(intro h2;conv=>whnf)
  ·rw[if_pos h2] at e5
   repeat' first|refine dt ?_;conv=>whnf|fail
   refine ak 1 rfl ?_
   rw[tN,e5]
   conv=>whnf
   repeat' first|refine dt ?_;conv=>whnf|fail
   refine⟨x+1,?_,by omega,by dsimp only;omega⟩
   exact aH.by_ (fg++[(4, .old 4),(5, .old 5),(221, .old 221)]) _ 400 rfl (aa) (aa)
  ·rw[if_neg h2,<-hg x hxl,<-e4,gD,gL (by omega),Option.getD_some,List.set_getElem_self] at e5
   repeat' first|refine dt ?_;conv=>whnf|fail
   refine⟨x+1,?_,by omega,by dsimp only;omega⟩
   dsimp only
   rw[<-e5]
   exact aH.by_ (fg++[(4, .old 4),(5, .old 5),(221, .old 221)]) _ 400 rfl (aa) (aa)
 ·obtain rfl:x=vars.length:=by omega
  rw[show vars.length=A.length from hA.symm,kP hl]
  conv=>whnf
  exact⟨rfl,(aa)⟩
theorem pV {L:List Int} {x:Nat} (h:L.getD x 0=0) (hx:x<L.length):L.set x 0=L:=by
 have:L[x]=0:=by rw[<-ap 0 hx];exact h
 rw[<-this,List.set_getElem_self]
theorem Iq (p:av) (vars:List Vb) (rows:List aV) (hv:vars.length<=1000000) (hrl:p.rules.length<=1000) (hin:∀x,x<vars.length->(vars.getD x d8).kind=5->0<=(vars.getD x d8).idx/\(vars.getD x d8).idx<p.rules.length) (seg:Nat) (state:Int):
  aj Tryz.prog 124 [.ptr 200 0, .int .i64 (seg:Int), .int .i64 state, .bool false] (ag.ofL (cU p vars rows)) (fun u M=>u= .agg [.sl 0 al (vars.map (bO p.rules 3 5 state seg)), .int .i64 0]/\M=ag.ofL (cU p vars rows)):=by
 have hrow:=wu p vars rows hv
 have hl:(vars.map zC).length=(vars.map (bO p.rules 3 5 state seg)).length:=by simp
 have hA:(vars.map zC).length=vars.length:=by simp
 have hg:∀x:Nat,x<vars.length->(vars.map zC).getD x 0=0:=fun x hx=>by rw[df _ hx];rfl
 have hB:∀x:Nat,x<vars.length->(vars.map (bO p.rules 3 5 state seg)).getD x 0=bO p.rules 3 5 state seg (vars.getD x d8):=fun x hx=>by rw[df _ hx]
 generalize vars.map (bO p.rules 3 5 state seg)=B at*
 generalize vars.map zC=A at*
 refine aj.idn rfl (aa) ?_
 refine aj.introL ab ac (cU p vars rows) Tryz.func124 rfl (by decide) ?_
 conv=>whnf
 refine aj.call fg (cU p vars rows) 400 rfl (aa) (aa) hrow ?_
 rintro u M' ⟨rfl,rfl⟩
 refine⟨fg++[(221, .old 221)],cU p vars rows++[(221, .row 3 0 al A)], .agg [.row 221 vars.length 1, .int .i64 0],rfl,(aa),(aa),?_⟩
 conv=>whnf
 refine aJ.loopF ab ac (fun x:Nat=>x<=vars.length) (fun x=>[(12, .int .i64 (x:Int))]) (fun x=>cU p vars rows++[(8, .box 161 [.nilsl, .int .i64 0]),(11, .box 161 [.row 221 vars.length 1, .int .i64 0]),(221, .row 3 0 al (bA A B x))]) (fun x=>vars.length-x) 0 (Nat.zero_le _) ?_;conv=>whnf
 refine⟨by rw[jn];exact aH.by_ (fg++[(8, .old 8),(11, .old 11),(221, .old 221)]) _ 400 rfl (aa) (aa),?_⟩
 rintro x hx
 conv=>whnf
 refine ae ?_ ?_<;>(intro h1;conv=>whnf)
 ·have hxl:x<vars.length:=by omega
  have e5:=kQ hl (show x<A.length by omega)
  have e4:=jF hl (show x<A.length by omega)
  have e6:=mV hl x
  have e0:=pV (L:=bA A B x) (x:=x) (by rw[e4];exact hg x hxl) (by omega)
  have hinx:=hin x hxl
  rw[hB x hxl] at e5
  clear e4 hB hg hin
  refine nI ?_
  rw[tN]
  generalize vars.getD x d8=v at*
  by_cases k1:v.kind=3
  ·by_cases k2:v.idx=state
   ·conv=>whnf
    have hv':bO p.rules 3 5 state seg v=1:=by
     unfold bO
     (repeat' split)<;>omega
    repeat' first|refine dt ?_;conv=>whnf|fail
    refine ak 1 rfl ?_
    conv=>whnf
    repeat' first|refine dt ?_;conv=>whnf|fail
    refine dI ?_
    conv=>whnf
    repeat' first|refine dt ?_;conv=>whnf|fail
    refine dI ?_
    conv=>whnf
    repeat' first|refine dt ?_;conv=>whnf|fail
    have e6:((bA A B x).set (x:Int).toNat 1)=bA A B (x+1):=by rw[tN,<-e5,hv']
    refine⟨x+1,?_,by omega,by dsimp only;omega⟩
    dsimp only
    rw[<-e6]
    exact aH.by_ (fg++[(8, .old 8),(11, .old 11),(221, .old 221)]) _ 400 rfl (aa) (aa)
   ·conv=>whnf
    have hv':bO p.rules 3 5 state seg v=0:=by
     unfold bO
     (repeat' split)<;>omega
    repeat' first|refine dt ?_;conv=>whnf|fail
    refine dI ?_
    conv=>whnf
    repeat' first|refine dt ?_;conv=>whnf|fail
    refine dI ?_
    conv=>whnf
    repeat' first|refine dt ?_;conv=>whnf|fail
    have e6:(bA A B x)=bA A B (x+1):=by rw[<-e5,hv',e0]
    refine⟨x+1,?_,by omega,by dsimp only;omega⟩
    dsimp only
    rw[<-e6]
    exact aH.by_ (fg++[(8, .old 8),(11, .old 11),(221, .old 221)]) _ 400 rfl (aa) (aa)
  ·by_cases k3:v.kind=5
   ·have hi:=hinx k3
    by_cases k4:v.seg<=seg
    ·by_cases k5:(p.rules.getD v.idx.toNat ax).dst=state
     ·by_cases k6:(p.rules.getD v.idx.toNat ax).src=state
      ·conv=>whnf
       have hv':bO p.rules 3 5 state seg v=-1:=by
        unfold bO
        (repeat' split)<;>omega
       repeat' first|refine dt ?_;conv=>whnf|fail
       refine dI ?_
       conv=>whnf
       repeat' first|refine dt ?_;conv=>whnf|fail
       refine ak 1 rfl ?_
       conv=>whnf
       repeat' first|refine dt ?_;conv=>whnf|fail
       refine dI ?_
       conv=>whnf
       repeat' first|refine dt ?_;conv=>whnf|fail
       refine ak (-1) rfl ?_
       conv=>whnf
       repeat' first|refine dt ?_;conv=>whnf|fail
       have e6:(((bA A B x).set (x:Int).toNat 1).set (x:Int).toNat (-1))=bA A B (x+1):=by rw[tN,List.set_set,<-e5,hv']
       refine⟨x+1,?_,by omega,by dsimp only;omega⟩
       dsimp only
       rw[<-e6]
       exact aH.by_ (fg++[(8, .old 8),(11, .old 11),(221, .old 221)]) _ 400 rfl (aa) (aa)
      ·conv=>whnf
       have hv':bO p.rules 3 5 state seg v=1:=by
        unfold bO
        (repeat' split)<;>omega
       repeat' first|refine dt ?_;conv=>whnf|fail
       refine dI ?_
       conv=>whnf
       repeat' first|refine dt ?_;conv=>whnf|fail
       refine ak 1 rfl ?_
       conv=>whnf
       repeat' first|refine dt ?_;conv=>whnf|fail
       refine dI ?_
       conv=>whnf
       repeat' first|refine dt ?_;conv=>whnf|fail
       have e6:((bA A B x).set (x:Int).toNat 1)=bA A B (x+1):=by rw[tN,<-e5,hv']
       refine⟨x+1,?_,by omega,by dsimp only;omega⟩
       dsimp only
       rw[<-e6]
       exact aH.by_ (fg++[(8, .old 8),(11, .old 11),(221, .old 221)]) _ 400 rfl (aa) (aa)
     ·by_cases k6:(p.rules.getD v.idx.toNat ax).src=state
      ·conv=>whnf
       have hv':bO p.rules 3 5 state seg v=-1:=by
        unfold bO
        (repeat' split)<;>omega
       repeat' first|refine dt ?_;conv=>whnf|fail
       refine dI ?_
       conv=>whnf
       repeat' first|refine dt ?_;conv=>whnf|fail
       refine dI ?_
       conv=>whnf
       repeat' first|refine dt ?_;conv=>whnf|fail
       refine ak (-1) rfl ?_
       conv=>whnf
       repeat' first|refine dt ?_;conv=>whnf|fail
       have e6:((bA A B x).set (x:Int).toNat (-1))=bA A B (x+1):=by rw[tN,<-e5,hv']
       refine⟨x+1,?_,by omega,by dsimp only;omega⟩
       dsimp only
       rw[<-e6]
       exact aH.by_ (fg++[(8, .old 8),(11, .old 11),(221, .old 221)]) _ 400 rfl (aa) (aa)
      ·conv=>whnf
       have hv':bO p.rules 3 5 state seg v=0:=by
        unfold bO
        (repeat' split)<;>omega
       repeat' first|refine dt ?_;conv=>whnf|fail
       refine dI ?_
       conv=>whnf
       repeat' first|refine dt ?_;conv=>whnf|fail
       refine dI ?_
       conv=>whnf
       repeat' first|refine dt ?_;conv=>whnf|fail
       have e6:(bA A B x)=bA A B (x+1):=by rw[<-e5,hv',e0]
       refine⟨x+1,?_,by omega,by dsimp only;omega⟩
       dsimp only
       rw[<-e6]
       exact aH.by_ (fg++[(8, .old 8),(11, .old 11),(221, .old 221)]) _ 400 rfl (aa) (aa)
    ·conv=>whnf
     have hv':bO p.rules 3 5 state seg v=0:=by
      unfold bO
      (repeat' split)<;>omega
     repeat' first|refine dt ?_;conv=>whnf|fail
     refine dI ?_
     conv=>whnf
     repeat' first|refine dt ?_;conv=>whnf|fail
     refine dI ?_
     conv=>whnf
     repeat' first|refine dt ?_;conv=>whnf|fail
     have e6:(bA A B x)=bA A B (x+1):=by rw[<-e5,hv',e0]
     refine⟨x+1,?_,by omega,by dsimp only;omega⟩
     dsimp only
     rw[<-e6]
     exact aH.by_ (fg++[(8, .old 8),(11, .old 11),(221, .old 221)]) _ 400 rfl (aa) (aa)
   ·conv=>whnf
    have hv':bO p.rules 3 5 state seg v=0:=by
     unfold bO
     (repeat' split)<;>omega
    repeat' first|refine dt ?_;conv=>whnf|fail
    refine dI ?_
    conv=>whnf
    repeat' first|refine dt ?_;conv=>whnf|fail
    refine dI ?_
    conv=>whnf
    repeat' first|refine dt ?_;conv=>whnf|fail
    have e6:(bA A B x)=bA A B (x+1):=by rw[<-e5,hv',e0]
    refine⟨x+1,?_,by omega,by dsimp only;omega⟩
    dsimp only
    rw[<-e6]
    exact aH.by_ (fg++[(8, .old 8),(11, .old 11),(221, .old 221)]) _ 400 rfl (aa) (aa)
 ·obtain rfl:x=vars.length:=by omega
  rw[show vars.length=A.length from hA.symm,kP hl]
  conv=>whnf
  exact⟨rfl,(aa)⟩
theorem Pc (p:av) (vars:List Vb) (rows:List aV) (hv:vars.length<=1000000) (hrl:p.rules.length<=1000) (hin:∀x,x<vars.length->(vars.getD x d8).kind=6->0<=(vars.getD x d8).idx/\(vars.getD x d8).idx<p.rules.length) (seg:Nat) (state:Int):
  aj Tryz.prog 124 [.ptr 200 0, .int .i64 (seg:Int), .int .i64 state, .bool true] (ag.ofL (cU p vars rows)) (fun u M=>u= .agg [.sl 0 al (vars.map (bO p.rules 4 6 state seg)), .int .i64 0]/\M=ag.ofL (cU p vars rows)):=by
 have hrow:=wu p vars rows hv
 have hl:(vars.map zC).length=(vars.map (bO p.rules 4 6 state seg)).length:=by simp
 have hA:(vars.map zC).length=vars.length:=by simp
 have hg:∀x:Nat,x<vars.length->(vars.map zC).getD x 0=0:=fun x hx=>by rw[df _ hx];rfl
 have hB:∀x:Nat,x<vars.length->(vars.map (bO p.rules 4 6 state seg)).getD x 0=bO p.rules 4 6 state seg (vars.getD x d8):=fun x hx=>by rw[df _ hx]
 generalize vars.map (bO p.rules 4 6 state seg)=B at*
 generalize vars.map zC=A at*
 refine aj.idn rfl (aa) ?_
 refine aj.introL ab ac (cU p vars rows) Tryz.func124 rfl (by decide) ?_
 conv=>whnf
 refine aj.call fg (cU p vars rows) 400 rfl (aa) (aa) hrow ?_
 rintro u M' ⟨rfl,rfl⟩
 refine⟨fg++[(221, .old 221)],cU p vars rows++[(221, .row 3 0 al A)], .agg [.row 221 vars.length 1, .int .i64 0],rfl,(aa),(aa),?_⟩
 conv=>whnf
 refine aJ.loopF ab ac (fun x:Nat=>x<=vars.length) (fun x=>[(12, .int .i64 (x:Int))]) (fun x=>cU p vars rows++[(8, .box 161 [.nilsl, .int .i64 0]),(11, .box 161 [.row 221 vars.length 1, .int .i64 0]),(221, .row 3 0 al (bA A B x))]) (fun x=>vars.length-x) 0 (Nat.zero_le _) ?_;conv=>whnf
 refine⟨by rw[jn];exact aH.by_ (fg++[(8, .old 8),(11, .old 11),(221, .old 221)]) _ 400 rfl (aa) (aa),?_⟩
 rintro x hx
 conv=>whnf
 refine ae ?_ ?_<;>(intro h1;conv=>whnf)
 ·have hxl:x<vars.length:=by omega
  have e5:=kQ hl (show x<A.length by omega)
  have e4:=jF hl (show x<A.length by omega)
  have e6:=mV hl x
  have e0:=pV (L:=bA A B x) (x:=x) (by rw[e4];exact hg x hxl) (by omega)
  have hinx:=hin x hxl
  rw[hB x hxl] at e5
  clear e4 hB hg hin
  refine nI ?_
  rw[tN]
  generalize vars.getD x d8=v at*
  by_cases k1:v.kind=4
  ·by_cases k2:v.idx=state
   ·conv=>whnf
    have hv':bO p.rules 4 6 state seg v=1:=by
     unfold bO
     (repeat' split)<;>omega
    repeat' first|refine dt ?_;conv=>whnf|fail
    refine ak 1 rfl ?_
    conv=>whnf
    repeat' first|refine dt ?_;conv=>whnf|fail
    refine dI ?_
    conv=>whnf
    repeat' first|refine dt ?_;conv=>whnf|fail
    refine dI ?_
    conv=>whnf
    repeat' first|refine dt ?_;conv=>whnf|fail
    have e6:((bA A B x).set (x:Int).toNat 1)=bA A B (x+1):=by rw[tN,<-e5,hv']
    refine⟨x+1,?_,by omega,by dsimp only;omega⟩
    dsimp only
    rw[<-e6]
    exact aH.by_ (fg++[(8, .old 8),(11, .old 11),(221, .old 221)]) _ 400 rfl (aa) (aa)
   ·conv=>whnf
    have hv':bO p.rules 4 6 state seg v=0:=by
     unfold bO
     (repeat' split)<;>omega
    repeat' first|refine dt ?_;conv=>whnf|fail
    refine dI ?_
    conv=>whnf
    repeat' first|refine dt ?_;conv=>whnf|fail
    refine dI ?_
    conv=>whnf
    repeat' first|refine dt ?_;conv=>whnf|fail
    have e6:(bA A B x)=bA A B (x+1):=by rw[<-e5,hv',e0]
    refine⟨x+1,?_,by omega,by dsimp only;omega⟩
    dsimp only
    rw[<-e6]
    exact aH.by_ (fg++[(8, .old 8),(11, .old 11),(221, .old 221)]) _ 400 rfl (aa) (aa)
  ·by_cases k3:v.kind=6
   ·have hi:=hinx k3
    by_cases k4:v.seg<=seg
    ·by_cases k5:(p.rules.getD v.idx.toNat ax).dst=state
     ·by_cases k6:(p.rules.getD v.idx.toNat ax).src=state
      ·conv=>whnf
       have hv':bO p.rules 4 6 state seg v=-1:=by
        unfold bO
        (repeat' split)<;>omega
       repeat' first|refine dt ?_;conv=>whnf|fail
       refine dI ?_
       conv=>whnf
       repeat' first|refine dt ?_;conv=>whnf|fail
       refine ak 1 rfl ?_
       conv=>whnf
       repeat' first|refine dt ?_;conv=>whnf|fail
       refine dI ?_
       conv=>whnf
       repeat' first|refine dt ?_;conv=>whnf|fail
       refine ak (-1) rfl ?_
       conv=>whnf
       repeat' first|refine dt ?_;conv=>whnf|fail
       have e6:(((bA A B x).set (x:Int).toNat 1).set (x:Int).toNat (-1))=bA A B (x+1):=by rw[tN,List.set_set,<-e5,hv']
       refine⟨x+1,?_,by omega,by dsimp only;omega⟩
       dsimp only
       rw[<-e6]
       exact aH.by_ (fg++[(8, .old 8),(11, .old 11),(221, .old 221)]) _ 400 rfl (aa) (aa)
      ·conv=>whnf
       have hv':bO p.rules 4 6 state seg v=1:=by
        unfold bO
        (repeat' split)<;>omega
       repeat' first|refine dt ?_;conv=>whnf|fail
       refine dI ?_
       conv=>whnf
       repeat' first|refine dt ?_;conv=>whnf|fail
       refine ak 1 rfl ?_
       conv=>whnf
       repeat' first|refine dt ?_;conv=>whnf|fail
       refine dI ?_
       conv=>whnf
       repeat' first|refine dt ?_;conv=>whnf|fail
       have e6:((bA A B x).set (x:Int).toNat 1)=bA A B (x+1):=by rw[tN,<-e5,hv']
       refine⟨x+1,?_,by omega,by dsimp only;omega⟩
       dsimp only
       rw[<-e6]
       exact aH.by_ (fg++[(8, .old 8),(11, .old 11),(221, .old 221)]) _ 400 rfl (aa) (aa)
     ·by_cases k6:(p.rules.getD v.idx.toNat ax).src=state
      ·conv=>whnf
       have hv':bO p.rules 4 6 state seg v=-1:=by
        unfold bO
        (repeat' split)<;>omega
       repeat' first|refine dt ?_;conv=>whnf|fail
       refine dI ?_
       conv=>whnf
       repeat' first|refine dt ?_;conv=>whnf|fail
       refine dI ?_
       conv=>whnf
       repeat' first|refine dt ?_;conv=>whnf|fail
       refine ak (-1) rfl ?_
       conv=>whnf
       repeat' first|refine dt ?_;conv=>whnf|fail
       have e6:((bA A B x).set (x:Int).toNat (-1))=bA A B (x+1):=by rw[tN,<-e5,hv']
       refine⟨x+1,?_,by omega,by dsimp only;omega⟩
       dsimp only
       rw[<-e6]
       exact aH.by_ (fg++[(8, .old 8),(11, .old 11),(221, .old 221)]) _ 400 rfl (aa) (aa)
      ·conv=>whnf
       have hv':bO p.rules 4 6 state seg v=0:=by
        unfold bO
        (repeat' split)<;>omega
       repeat' first|refine dt ?_;conv=>whnf|fail
       refine dI ?_
       conv=>whnf
       repeat' first|refine dt ?_;conv=>whnf|fail
       refine dI ?_
       conv=>whnf
       repeat' first|refine dt ?_;conv=>whnf|fail
       have e6:(bA A B x)=bA A B (x+1):=by rw[<-e5,hv',e0]
       refine⟨x+1,?_,by omega,by dsimp only;omega⟩
       dsimp only
       rw[<-e6]
       exact aH.by_ (fg++[(8, .old 8),(11, .old 11),(221, .old 221)]) _ 400 rfl (aa) (aa)
    ·conv=>whnf
     have hv':bO p.rules 4 6 state seg v=0:=by
      unfold bO
      (repeat' split)<;>omega
     repeat' first|refine dt ?_;conv=>whnf|fail
     refine dI ?_
     conv=>whnf
     repeat' first|refine dt ?_;conv=>whnf|fail
     refine dI ?_
     conv=>whnf
     repeat' first|refine dt ?_;conv=>whnf|fail
     have e6:(bA A B x)=bA A B (x+1):=by rw[<-e5,hv',e0]
     refine⟨x+1,?_,by omega,by dsimp only;omega⟩
     dsimp only
     rw[<-e6]
     exact aH.by_ (fg++[(8, .old 8),(11, .old 11),(221, .old 221)]) _ 400 rfl (aa) (aa)
   ·conv=>whnf
    have hv':bO p.rules 4 6 state seg v=0:=by
     unfold bO
     (repeat' split)<;>omega
    repeat' first|refine dt ?_;conv=>whnf|fail
    refine dI ?_
    conv=>whnf
    repeat' first|refine dt ?_;conv=>whnf|fail
    refine dI ?_
    conv=>whnf
    repeat' first|refine dt ?_;conv=>whnf|fail
    have e6:(bA A B x)=bA A B (x+1):=by rw[<-e5,hv',e0]
    refine⟨x+1,?_,by omega,by dsimp only;omega⟩
    dsimp only
    rw[<-e6]
    exact aH.by_ (fg++[(8, .old 8),(11, .old 11),(221, .old 221)]) _ 400 rfl (aa) (aa)
 ·obtain rfl:x=vars.length:=by omega
  rw[show vars.length=A.length from hA.symm,kP hl]
  conv=>whnf
  exact⟨rfl,(aa)⟩
theorem Li (p:av) (vars:List Vb) (rows:List aV) (hv:vars.length<=1000000) (hrl:p.rules.length<=1000) (hsd:∀i,i<p.rules.length->(p.rules.getD i ax).send.length<=60) (hin:∀x,x<vars.length->(vars.getD x d8).kind=5->0<=(vars.getD x d8).idx/\(vars.getD x d8).idx<p.rules.length) (message:Int) (seg:Nat):
  aj Tryz.prog 126 [.ptr 200 0, .int .i64 message, .int .i64 (seg:Int), .bool false] (ag.ofL (cU p vars rows)) (fun u M=>u= .agg [.sl 0 al (vars.map (bJ p.rules 5 message seg)), .int .i64 0]/\M=ag.ofL (cU p vars rows)):=by
 have hrow:=wu p vars rows hv
 have hl:(vars.map zC).length=(vars.map (bJ p.rules 5 message seg)).length:=by simp
 have hA:(vars.map zC).length=vars.length:=by simp
 have hg:∀x:Nat,x<vars.length->(vars.map zC).getD x 0=0:=fun x hx=>by rw[df _ hx];rfl
 have hB:∀x:Nat,x<vars.length->(vars.map (bJ p.rules 5 message seg)).getD x 0=bJ p.rules 5 message seg (vars.getD x d8):=fun x hx=>by rw[df _ hx]
 generalize vars.map (bJ p.rules 5 message seg)=B at*
 generalize vars.map zC=A at*
 refine aj.idn rfl (aa) ?_
 refine aj.introL ab ac (cU p vars rows) Tryz.func126 rfl (by decide) ?_
 conv=>whnf
 refine aj.call fg (cU p vars rows) 400 rfl (aa) (aa) hrow ?_
 rintro u M' ⟨rfl,rfl⟩
 refine⟨fg++[(221, .old 221)],cU p vars rows++[(221, .row 3 0 al A)], .agg [.row 221 vars.length 1, .int .i64 0],rfl,(aa),(aa),?_⟩
 conv=>whnf
 refine aJ.loopF ab ac (fun x:Nat=>x<=vars.length) (fun x=>[(11, .int .i64 (x:Int))]) (fun x=>cU p vars rows++[(8, .box 161 [.nilsl, .int .i64 0]),(10, .box 161 [.row 221 vars.length 1, .int .i64 0]),(221, .row 3 0 al (bA A B x))]) (fun x=>vars.length-x) 0 (Nat.zero_le _) ?_;conv=>whnf
 refine⟨by rw[jn];exact aH.by_ (fg++[(8, .old 8),(10, .old 10),(221, .old 221)]) _ 400 rfl (aa) (aa),?_⟩
 rintro x hx
 conv=>whnf
 refine ae ?_ ?_<;>(intro h1;conv=>whnf)
 ·have hxl:x<vars.length:=by omega
  have e5:=kQ hl (show x<A.length by omega)
  have e4:=jF hl (show x<A.length by omega)
  have e6:=mV hl x
  have e0:=pV (L:=bA A B x) (x:=x) (by rw[e4];exact hg x hxl) (by omega)
  have hinx:=hin x hxl
  rw[hB x hxl] at e5
  clear e4 hB hg hin
  refine nI ?_
  rw[tN]
  generalize vars.getD x d8=v at*
  by_cases k3:v.kind=5
  ·by_cases k4:v.seg<seg
   ·conv=>whnf
    have hi:=hinx k3
    have hsd1:=hsd v.idx.toNat (by omega)
    first|refine dI ?_|refine eI (by decide+kernel) ?_
    conv=>whnf
    repeat' first|refine dt ?_;conv=>whnf|fail
    refine dD (Bu (p.rules.getD v.idx.toNat ax).send message (by omega)) (fun _=>?_) (fun _=>?_)<;>(conv=>whnf)
    ·rename_i hm
     have hv':bJ p.rules 5 message seg v=1:=by
      unfold bJ
      rw[if_pos ⟨k3,k4,hm⟩]
     repeat' first|refine dt ?_;conv=>whnf|fail
     refine ak 1 rfl ?_
     conv=>whnf
     repeat' first|refine dt ?_;conv=>whnf|fail
     have e6:((bA A B x).set (x:Int).toNat 1)=bA A B (x+1):=by rw[tN,<-e5,hv']
     refine⟨x+1,?_,by omega,by dsimp only;omega⟩
     dsimp only
     rw[<-e6]
     exact aH.by_ (fg++[(8, .old 8),(10, .old 10),(221, .old 221)]) _ 400 rfl (aa) (aa)
    ·rename_i hm
     have hv':bJ p.rules 5 message seg v=0:=by
      unfold bJ
      rw[if_neg (fun h=>hm h.2.2)]
     repeat' first|refine dt ?_;conv=>whnf|fail
     have e6:(bA A B x)=bA A B (x+1):=by rw[<-e5,hv',e0]
     refine⟨x+1,?_,by omega,by dsimp only;omega⟩
     dsimp only
     rw[<-e6]
     exact aH.by_ (fg++[(8, .old 8),(10, .old 10),(221, .old 221)]) _ 400 rfl (aa) (aa)
   ·conv=>whnf
    have hv':bJ p.rules 5 message seg v=0:=by
     unfold bJ
     rw[if_neg (fun h=>by omega)]
    first|refine dI ?_|refine eI (by decide+kernel) ?_
    conv=>whnf
    repeat' first|refine dt ?_;conv=>whnf|fail
    have e6:(bA A B x)=bA A B (x+1):=by rw[<-e5,hv',e0]
    refine⟨x+1,?_,by omega,by dsimp only;omega⟩
    dsimp only
    rw[<-e6]
    exact aH.by_ (fg++[(8, .old 8),(10, .old 10),(221, .old 221)]) _ 400 rfl (aa) (aa)
  ·conv=>whnf
   have hv':bJ p.rules 5 message seg v=0:=by
    unfold bJ
    rw[if_neg (fun h=>by omega)]
   first|refine dI ?_|refine eI (by decide+kernel) ?_
   conv=>whnf
   repeat' first|refine dt ?_;conv=>whnf|fail
   have e6:(bA A B x)=bA A B (x+1):=by rw[<-e5,hv',e0]
   refine⟨x+1,?_,by omega,by dsimp only;omega⟩
   dsimp only
   rw[<-e6]
   exact aH.by_ (fg++[(8, .old 8),(10, .old 10),(221, .old 221)]) _ 400 rfl (aa) (aa)
 ·obtain rfl:x=vars.length:=by omega
  rw[show vars.length=A.length from hA.symm,kP hl]
  conv=>whnf
  exact⟨rfl,(aa)⟩
theorem Lj (p:av) (vars:List Vb) (rows:List aV) (hv:vars.length<=1000000) (hrl:p.rules.length<=1000) (hsd:∀i,i<p.rules.length->(p.rules.getD i ax).send.length<=60) (hin:∀x,x<vars.length->(vars.getD x d8).kind=6->0<=(vars.getD x d8).idx/\(vars.getD x d8).idx<p.rules.length) (message:Int) (seg:Nat):
  aj Tryz.prog 126 [.ptr 200 0, .int .i64 message, .int .i64 (seg:Int), .bool true] (ag.ofL (cU p vars rows)) (fun u M=>u= .agg [.sl 0 al (vars.map (bJ p.rules 6 message seg)), .int .i64 0]/\M=ag.ofL (cU p vars rows)):=by
 have hrow:=wu p vars rows hv
 have hl:(vars.map zC).length=(vars.map (bJ p.rules 6 message seg)).length:=by simp
 have hA:(vars.map zC).length=vars.length:=by simp
 have hg:∀x:Nat,x<vars.length->(vars.map zC).getD x 0=0:=fun x hx=>by rw[df _ hx];rfl
 have hB:∀x:Nat,x<vars.length->(vars.map (bJ p.rules 6 message seg)).getD x 0=bJ p.rules 6 message seg (vars.getD x d8):=fun x hx=>by rw[df _ hx]
 generalize vars.map (bJ p.rules 6 message seg)=B at*
 generalize vars.map zC=A at*
 refine aj.idn rfl (aa) ?_
 refine aj.introL ab ac (cU p vars rows) Tryz.func126 rfl (by decide) ?_
 conv=>whnf
 refine aj.call fg (cU p vars rows) 400 rfl (aa) (aa) hrow ?_
 rintro u M' ⟨rfl,rfl⟩
 refine⟨fg++[(221, .old 221)],cU p vars rows++[(221, .row 3 0 al A)], .agg [.row 221 vars.length 1, .int .i64 0],rfl,(aa),(aa),?_⟩
 conv=>whnf
 refine aJ.loopF ab ac (fun x:Nat=>x<=vars.length) (fun x=>[(11, .int .i64 (x:Int))]) (fun x=>cU p vars rows++[(8, .box 161 [.nilsl, .int .i64 0]),(10, .box 161 [.row 221 vars.length 1, .int .i64 0]),(221, .row 3 0 al (bA A B x))]) (fun x=>vars.length-x) 0 (Nat.zero_le _) ?_;conv=>whnf
 refine⟨by rw[jn];exact aH.by_ (fg++[(8, .old 8),(10, .old 10),(221, .old 221)]) _ 400 rfl (aa) (aa),?_⟩
 rintro x hx
 conv=>whnf
 refine ae ?_ ?_<;>(intro h1;conv=>whnf)
 ·have hxl:x<vars.length:=by omega
  have e5:=kQ hl (show x<A.length by omega)
  have e4:=jF hl (show x<A.length by omega)
  have e6:=mV hl x
  have e0:=pV (L:=bA A B x) (x:=x) (by rw[e4];exact hg x hxl) (by omega)
  have hinx:=hin x hxl
  rw[hB x hxl] at e5
  clear e4 hB hg hin
  refine nI ?_
  rw[tN]
  generalize vars.getD x d8=v at*
  by_cases k3:v.kind=6
  ·by_cases k4:v.seg<seg
   ·conv=>whnf
    have hi:=hinx k3
    have hsd1:=hsd v.idx.toNat (by omega)
    first|refine dI ?_|refine eI (by decide+kernel) ?_
    conv=>whnf
    repeat' first|refine dt ?_;conv=>whnf|fail
    refine dD (Bu (p.rules.getD v.idx.toNat ax).send message (by omega)) (fun _=>?_) (fun _=>?_)<;>(conv=>whnf)
    ·rename_i hm
     have hv':bJ p.rules 6 message seg v=1:=by
      unfold bJ
      rw[if_pos ⟨k3,k4,hm⟩]
     repeat' first|refine dt ?_;conv=>whnf|fail
     refine ak 1 rfl ?_
     conv=>whnf
     repeat' first|refine dt ?_;conv=>whnf|fail
     have e6:((bA A B x).set (x:Int).toNat 1)=bA A B (x+1):=by rw[tN,<-e5,hv']
     refine⟨x+1,?_,by omega,by dsimp only;omega⟩
     dsimp only
     rw[<-e6]
     exact aH.by_ (fg++[(8, .old 8),(10, .old 10),(221, .old 221)]) _ 400 rfl (aa) (aa)
    ·rename_i hm
     have hv':bJ p.rules 6 message seg v=0:=by
      unfold bJ
      rw[if_neg (fun h=>hm h.2.2)]
     repeat' first|refine dt ?_;conv=>whnf|fail
     have e6:(bA A B x)=bA A B (x+1):=by rw[<-e5,hv',e0]
     refine⟨x+1,?_,by omega,by dsimp only;omega⟩
     dsimp only
     rw[<-e6]
     exact aH.by_ (fg++[(8, .old 8),(10, .old 10),(221, .old 221)]) _ 400 rfl (aa) (aa)
   ·conv=>whnf
    have hv':bJ p.rules 6 message seg v=0:=by
     unfold bJ
     rw[if_neg (fun h=>by omega)]
    first|refine dI ?_|refine eI (by decide+kernel) ?_
    conv=>whnf
    repeat' first|refine dt ?_;conv=>whnf|fail
    have e6:(bA A B x)=bA A B (x+1):=by rw[<-e5,hv',e0]
    refine⟨x+1,?_,by omega,by dsimp only;omega⟩
    dsimp only
    rw[<-e6]
    exact aH.by_ (fg++[(8, .old 8),(10, .old 10),(221, .old 221)]) _ 400 rfl (aa) (aa)
  ·conv=>whnf
   have hv':bJ p.rules 6 message seg v=0:=by
    unfold bJ
    rw[if_neg (fun h=>by omega)]
   first|refine dI ?_|refine eI (by decide+kernel) ?_
   conv=>whnf
   repeat' first|refine dt ?_;conv=>whnf|fail
   have e6:(bA A B x)=bA A B (x+1):=by rw[<-e5,hv',e0]
   refine⟨x+1,?_,by omega,by dsimp only;omega⟩
   dsimp only
   rw[<-e6]
   exact aH.by_ (fg++[(8, .old 8),(10, .old 10),(221, .old 221)]) _ 400 rfl (aa) (aa)
 ·obtain rfl:x=vars.length:=by omega
  rw[show vars.length=A.length from hA.symm,kP hl]
  conv=>whnf
  exact⟨rfl,(aa)⟩
theorem pW (vars:List Vb) (a b:Co) (c d k e:Int) (he:c+k*d=e) (hl:vars.length<=1000000) (hk:-100<=k/\k<=100) (ha:ko 1000000 a) (hb:ko 10000 b) (hc:-1000000<=c/\c<=1000000) (hd:-10000<=d/\d<=10000):
  ah Tryz.prog 120 [.agg [.sl 0 al (vars.map a), .int .i64 c], .agg [.sl 0 al (vars.map b), .int .i64 d], .int .i64 k] (fun u=>u= .agg [.sl 0 al (vars.map (bo a k b)), .int .i64 e]):=by
 subst he
 exact Qw vars a b c d k hl hk ha hb hc hd
theorem oE (rs:List cf) (fire message:Int) (seg:Nat) (v:Vb):-2<=bJ rs fire message seg v/\bJ rs fire message seg v<=2:=by
 unfold bJ
 split<;>omega
theorem B5 (rs:List cf) (start fire state:Int) (seg:Nat) (v:Vb):-2<=bO rs start fire state seg v/\bO rs start fire state seg v<=2:=by
 unfold bO
 (repeat' split)<;>omega
theorem Ir (kind:Int) (v:Vb):-2<=x9 kind v/\x9 kind v<=2:=by
 unfold x9
 split<;>omega
theorem qU {l:lp} (h:eY l):ko 100 (bH l):=fun v=>by
 obtain⟨h1,h2,h3,h4⟩:=h
 unfold cd at h1 h2 h3 h4
 unfold bH
 (repeat' split)<;>omega
def lF:lp:=⟨0,0,0,1⟩
def l0 (p:av) (g:fH) (j:Nat):Co:=
 bo (if jZ p then bo (bo zC g.coef (bJ p.rules 5 g.message j)) g.coef (bJ p.rules 6 g.message j)
  else if p.fault=3 then bo (bo zC g.coef (bJ p.rules 5 g.message j)) g.coef (bH lF)
  else bo zC g.coef (bJ p.rules 5 g.message j)) (-1) (bH g.bound)
def KD (p:av) (vars:List Vb):Prop:=∀x,x<vars.length->((vars.getD x d8).kind=5\/(vars.getD x d8).kind=6)->0<=(vars.getD x d8).idx/\(vars.getD x d8).idx<p.rules.length
theorem uA {p:av} {q:aP} {sch:List Int} (h:bD p q=0):KD p (az p q sch):=fun x hx hk=>by
 have:=ef h (bu (l:=az p q sch) d8 hx)
 generalize (az p q sch).getD x d8=v at*
 rcases this with (rfl|rfl|rfl)|h|h
 ·dsimp only at hk;omega
 ·dsimp only at hk;omega
 ·dsimp only at hk;omega
 ·omega
 ·exact h.2.2
theorem Pd (p:av) (q:aP) (sch:List Int) (rows:List aV) (hq:bD p q=0) (hs:dS (ay p.rules).length sch) (g:fH) (hgc:1<=g.coef/\g.coef<=100) (hgb:eY g.bound) (j:Nat):
  aj Tryz.prog 123 [.ptr 200 0, .agg (cg g), .int .i64 (j:Int)] (ag.ofL (cU p (az p q sch) rows)) (fun u M=>u= .agg [.sl 0 al ((az p q sch).map (l0 p g j)), .int .i64 (-g.bound.c)]/\M=ag.ofL (cU p (az p q sch) rows)):=by
 have hV:=(aW hq).vld
 have wl:=(aN hV).len
 have hv:=iE hq hs
 have hrl:p.rules.length<=1000:=by omega
 have hsd:=pC hV
 have hru:=uA (sch:=sch) hq
 have hin5:=fun x hx hk=>hru x hx (.inl hk)
 have hin6:=fun x hx hk=>hru x hx (.inr hk)
 have hrow:=DE p (az p q sch) rows (by omega)
 have hs5:=Li p (az p q sch) rows (by omega) hrl hsd hin5 g.message j
 have hs6:=Lj p (az p q sch) rows (by omega) hrl hsd hin6 g.message j
 have hlF:=DF p q sch rows hq hs lF
 have hlB:=DF p q sch rows hq hs g.bound
 have hbc:=hgb.1
 unfold cd at hbc
 have b5:ko 10000 (bJ p.rules 5 g.message j):=fun v=>by have:=oE p.rules 5 g.message j v;omega
 have b6:ko 10000 (bJ p.rules 6 g.message j):=fun v=>by have:=oE p.rules 6 g.message j v;omega
 have bF:ko 10000 (bH lF):=fun v=>by unfold bH lF;dsimp only;(repeat' split)<;>omega
 have bB:ko 10000 (bH g.bound):=aF (qU hgb) (by omega)
 have kf:cd g.coef:=by unfold cd;omega
 have c1:ko 1000 (bo zC g.coef (bJ p.rules 5 g.message j)):=aF (ic (lR (X:=0) (by omega)) kf (oE _ _ _ _)) (by omega)
 have c2:ko 2000 (bo (bo zC g.coef (bJ p.rules 5 g.message j)) g.coef (bJ p.rules 6 g.message j)):=aF (ic c1 kf (oE _ _ _ _)) (by omega)
 have c3:ko 2000 (bo (bo zC g.coef (bJ p.rules 5 g.message j)) g.coef (bH lF)):=aF (ic c1 kf fun v=>by unfold bH lF;dsimp only;(repeat' split)<;>omega) (by omega)
 have h1:=pW (az p q sch) zC (bJ p.rules 5 g.message j) 0 0 g.coef 0 (by omega) (by omega) (by omega) (lR (by omega)) b5 (by omega) (by omega)
 have h2:=pW (az p q sch) _ (bJ p.rules 6 g.message j) 0 0 g.coef 0 (by omega) (by omega) (by omega) (aF c1 (by omega)) b6 (by omega) (by omega)
 have h3:=pW (az p q sch) _ (bH lF) 0 0 g.coef 0 (by omega) (by omega) (by omega) (aF c1 (by omega)) bF (by omega) (by omega)
 have e1:=pW (az p q sch) _ (bH g.bound) 0 g.bound.c (-1) (-g.bound.c) (by omega) (by omega) (by omega) (aF c1 (by omega)) bB (by omega) (by omega)
 have e2:=pW (az p q sch) _ (bH g.bound) 0 g.bound.c (-1) (-g.bound.c) (by omega) (by omega) (by omega) (aF c2 (by omega)) bB (by omega) (by omega)
 have e3:=pW (az p q sch) _ (bH g.bound) 0 g.bound.c (-1) (-g.bound.c) (by omega) (by omega) (by omega) (aF c3 (by omega)) bB (by omega) (by omega)
 have hD1:jZ p->l0 p g j=bo (bo (bo zC g.coef (bJ p.rules 5 g.message j)) g.coef (bJ p.rules 6 g.message j)) (-1) (bH g.bound):=fun h=>by unfold l0;rw[if_pos h]
 have hD2:¬jZ p->p.fault=3->l0 p g j=bo (bo (bo zC g.coef (bJ p.rules 5 g.message j)) g.coef (bH lF)) (-1) (bH g.bound):=fun h h'=>by unfold l0;rw[if_neg h,if_pos h']
 have hD3:¬jZ p->¬p.fault=3->l0 p g j=bo (bo zC g.coef (bJ p.rules 5 g.message j)) (-1) (bH g.bound):=fun h h'=>by unfold l0;rw[if_neg h,if_neg h']
 have hw3:jZ p->¬p.fault=3:=fun h=>by unfold jZ at h;omega
 clear b5 b6 bF bB c1 c2 c3 hin5 hin6 hru hsd
 rw[show lF.c=0 from rfl] at hlF
 generalize bo (bo (bo zC g.coef (bJ p.rules 5 g.message j)) g.coef (bJ p.rules 6 g.message j)) (-1) (bH g.bound)=E2 at*
 generalize bo (bo (bo zC g.coef (bJ p.rules 5 g.message j)) g.coef (bH lF)) (-1) (bH g.bound)=E3 at*
 generalize bo (bo zC g.coef (bJ p.rules 5 g.message j)) (-1) (bH g.bound)=E1 at*
 generalize bo (bo zC g.coef (bJ p.rules 5 g.message j)) g.coef (bJ p.rules 6 g.message j)=C2 at*
 generalize bo (bo zC g.coef (bJ p.rules 5 g.message j)) g.coef (bH lF)=C3 at*
 generalize bo zC g.coef (bJ p.rules 5 g.message j)=C1 at*
 generalize bJ p.rules 5 g.message j=S5 at*
 generalize bJ p.rules 6 g.message j=S6 at*
 generalize bH g.bound=LB at*
 generalize bH lF=LF at*
 generalize l0 p g j=GD at*
 generalize az p q sch=vars at*
 refine aj.idn rfl (aa) ?_
 refine aj.introL ab ac (cU p vars rows) Tryz.func123 rfl (by decide) ?_
 simp only[eJ]
 rw[show Tryz.f123.ntmps=51 from rfl]
 simp only[bX]
 simp only[cF]
 rw[be]
 simp only[gv,aG,List.map_cons,List.map_nil,aZ]
 conv=>whnf
 refine au rfl ?_
 conv=>whnf
 apply c5
 case k=>
  intro o1 o2 o3 o4 o5 o6
  refine fC [0,2,3,4,5,7,8] (by decide+kernel) ?_
  conv=>whnf
  repeat' first
   |exact True.intro
   |(refine And.intro ?_ ?_<;>conv=>whnf)
   |(refine aj.call fg (cU p vars rows) 400 rfl (aa) (aa) hrow ?_;rintro u M' ⟨rfl,rfl⟩;refine⟨fg,cU p vars rows, .agg [.sl 0 al (vars.map zC), .int .i64 0],rfl,(aa),(aa),?_⟩;conv=>whnf)
   |(refine aj.call fg (cU p vars rows) 400 rfl (aa) (aa) hs5 ?_;rintro u M' ⟨rfl,rfl⟩;refine⟨fg,cU p vars rows, .agg [.sl 0 al (vars.map S5), .int .i64 0],rfl,(aa),(aa),?_⟩;conv=>whnf)
   |(refine oP (h1) ?_;conv=>whnf)
   |with_reducible assumption
   |fail
 all_goals try first
  |exact True.intro
  |exact True
 all_goals
  refine dC (fu p) (fun _=>?_) (fun _=>?_)<;>(conv=>whnf)
  ·rename_i hw
   repeat' first|refine dt ?_;conv=>whnf|fail
   apply c5
   case k=>
    intro o1 o2 o3 o4 o5 o6
    refine fC [1,2,3,4,6,7] (by decide+kernel) ?_
    conv=>whnf
    repeat' first
     |exact True.intro
     |(refine And.intro ?_ ?_<;>conv=>whnf)
     |(refine aj.call fg (cU p vars rows) 400 rfl (aa) (aa) hs6 ?_;rintro u M' ⟨rfl,rfl⟩;refine⟨fg,cU p vars rows, .agg [.sl 0 al (vars.map S6), .int .i64 0],rfl,(aa),(aa),?_⟩;conv=>whnf)
     |(refine oP (h2) ?_;conv=>whnf)
     |with_reducible assumption
     |fail
   all_goals try first
    |exact True.intro
    |exact True
   all_goals
    refine fI ?_ (hw3 hw)
    conv=>whnf
    rw[hD1 hw]
    refine fC [1,2,3] (by decide+kernel) ?_
    conv=>whnf
    repeat' first
     |exact True.intro
     |(refine And.intro ?_ ?_<;>conv=>whnf)
     |(refine aj.call fg (cU p vars rows) 400 rfl (aa) (aa) hlB ?_;rintro u M' ⟨rfl,rfl⟩;refine⟨fg,cU p vars rows, .agg [.sl 0 al (vars.map LB), .int .i64 g.bound.c],rfl,(aa),(aa),?_⟩;conv=>whnf)
     |(refine oP (e2) ?_;conv=>whnf)
     |exact⟨rfl,(aa)⟩
     |exact rfl
     |fail
  ·rename_i hw
   refine ae ?_ ?_<;>(intro hf;conv=>whnf)
   ·apply c5
    case k=>
     intro o1 o2 o3 o4 o5 o6
     refine fC [1,2,4,5] (by decide+kernel) ?_
     conv=>whnf
     repeat' first
      |exact True.intro
      |(refine And.intro ?_ ?_<;>conv=>whnf)
      |(refine aj.call fg (cU p vars rows) 400 rfl (aa) (aa) hlF ?_;rintro u M' ⟨rfl,rfl⟩;refine⟨fg,cU p vars rows, .agg [.sl 0 al (vars.map LF), .int .i64 0],rfl,(aa),(aa),?_⟩;conv=>whnf)
      |(refine oP (h3) ?_;conv=>whnf)
      |with_reducible assumption
      |fail
    all_goals try first
     |exact True.intro
     |exact True
    all_goals
     rw[hD2 hw hf]
     refine fC [1,2,3] (by decide+kernel) ?_
     conv=>whnf
     repeat' first
      |exact True.intro
      |(refine And.intro ?_ ?_<;>conv=>whnf)
      |(refine aj.call fg (cU p vars rows) 400 rfl (aa) (aa) hlB ?_;rintro u M' ⟨rfl,rfl⟩;refine⟨fg,cU p vars rows, .agg [.sl 0 al (vars.map LB), .int .i64 g.bound.c],rfl,(aa),(aa),?_⟩;conv=>whnf)
      |(refine oP (e3) ?_;conv=>whnf)
      |exact⟨rfl,(aa)⟩
      |exact rfl
      |fail
   ·rw[hD3 hw hf]
    refine fC [1,2,3] (by decide+kernel) ?_
    conv=>whnf
    repeat' first
     |exact True.intro
     |(refine And.intro ?_ ?_<;>conv=>whnf)
     |(refine aj.call fg (cU p vars rows) 400 rfl (aa) (aa) hlB ?_;rintro u M' ⟨rfl,rfl⟩;refine⟨fg,cU p vars rows, .agg [.sl 0 al (vars.map LB), .int .i64 g.bound.c],rfl,(aa),(aa),?_⟩;conv=>whnf)
     |(refine oP (e1) ?_;conv=>whnf)
     |exact⟨rfl,(aa)⟩
     |exact rfl
     |fail
def qV (p:av) (seg:Nat) (states:List Int):Co:=states.foldl (fun c x=>bo c 1 (bO p.rules 3 5 x seg)) zC
theorem Lk (p:av) (vars:List Vb) (rows:List aV) (hv:vars.length<=1000000) (hrl:p.rules.length<=1000) (hru:KD p vars) (seg:Nat) (states:List Int) (hsl:states.length<=1000) (less:Int) (hls:0<=less/\less<=1000):
  aj Tryz.prog 125 [.ptr 200 0, .int .i64 (seg:Int), .sl 0 al states, .int .i64 less] (ag.ofL (cU p vars rows)) (fun u M=>u= .agg [.sl 0 al (vars.map (qV p seg states)), .int .i64 (-less)]/\M=ag.ofL (cU p vars rows)):=by
 have hin5:=fun x hx hk=>hru x hx (.inl hk)
 have hrow:=DE p vars rows hv
 obtain⟨F,hF⟩:∃F:Nat->Co,F=fun x=>(states.take x).foldl (fun c x=>bo c 1 (bO p.rules 3 5 x seg)) zC:=⟨_,rfl⟩
 have hF0:F 0=zC:=by rw[hF];rfl
 have hFn:∀x,x<states.length->F (x+1)=bo (F x) 1 (bO p.rules 3 5 (states.getD (x:Int).toNat 0) seg):=fun x hx=>by
  rw[hF,tN]
  dsimp only
  rw[List.take_succ_eq_append_getElem hx,List.foldl_append,ap 0 hx]
  rfl
 have hFb:∀x,x<=states.length->ko (200*x) (F x):=by
  intro x
  induction x with
  |zero=>intro _;rw[hF0];exact lR (by omega)
  |succ x ih=>
   intro hx
   rw[hFn x (by omega)]
   exact aF (ic (ih (by omega)) (by unfold cd;omega) (B5 _ _ _ _ _)) (by omega)
 have hFe:qV p seg states=F states.length:=by rw[hF];dsimp only;rw[List.take_length];rfl
 have ha:=fun x:Nat=>Iq p vars rows hv hrl hin5 seg (states.getD (x:Int).toNat 0)
 have hadd:∀x,x<states.length->ah Tryz.prog 120 [.agg [.sl 0 al (vars.map (F x)), .int .i64 0], .agg [.sl 0 al (vars.map (bO p.rules 3 5 (states.getD (x:Int).toNat 0) seg)), .int .i64 0], .int .i64 1] (fun u=>u= .agg [.sl 0 al (vars.map (F (x+1))), .int .i64 0]):=fun x hx=>by
  rw[hFn x hx]
  exact pW vars _ _ 0 0 1 0 (by omega) hv (by omega) (aF (hFb x (by omega)) (by omega)) (fun v=>by have:=B5 p.rules 3 5 (states.getD (x:Int).toNat 0) seg v;omega) (by omega) (by omega)
 rw[hFe,show -less=0-less by omega]
 rw[<-hF0] at hrow
 clear hF hFn hFb hFe hF0
 refine aj.idn rfl (aa) ?_
 refine aj.introL ab ac (cU p vars rows) Tryz.func125 rfl (by decide) ?_
 conv=>whnf
 refine aj.call fg (cU p vars rows) 400 rfl (aa) (aa) hrow ?_
 rintro u M' ⟨rfl,rfl⟩
 refine⟨fg,cU p vars rows, .agg [.sl 0 al (vars.map (F 0)), .int .i64 0],rfl,(aa),(aa),?_⟩
 conv=>whnf
 refine aJ.loopF ab ac (fun x:Nat=>x<=states.length) (fun x=>[(12, .top),(10, .int .i64 (x:Int))]) (fun x=>cU p vars rows++[(8, .box 161 [.nilsl, .int .i64 0]),(9, .box 161 [.sl 0 al (vars.map (F x)), .int .i64 0])]) (fun x=>states.length-x) 0 (Nat.zero_le _) ?_;conv=>whnf
 refine⟨aH.by_ (fg++[(8, .old 8),(9, .old 9)]) _ 400 rfl (aa) (aa),?_⟩
 rintro x hx
 conv=>whnf
 refine ae ?_ ?_<;>(intro h1;conv=>whnf)
 ·have hxl:x<states.length:=by omega
  have ha1:=ha x
  have hadd1:=hadd x hxl
  generalize bO p.rules 3 5 (states.getD (x:Int).toNat 0) seg=AF at*
  apply c5
  case k=>
   intro o1 o2 o3 o4 o5 o6
   refine fC [1,2,3,4,6] (by decide+kernel) ?_
   conv=>whnf
   repeat' first
    |exact True.intro
    |(refine And.intro ?_ ?_<;>conv=>whnf)
    |(refine aj.call fg (cU p vars rows) 400 rfl (aa) (aa) ha1 ?_;rintro u M' ⟨rfl,rfl⟩;refine⟨fg,cU p vars rows, .agg [.sl 0 al (vars.map AF), .int .i64 0],rfl,(aa),(aa),?_⟩;conv=>whnf)
    |(refine bg (by clear o1 o2 o3 o4 o5 o6;omega) ?_;conv=>whnf)
    |(refine oP (hadd1) ?_;conv=>whnf)
    |with_reducible assumption
    |fail
  all_goals try first
   |exact True.intro
   |exact True
  all_goals
   repeat' first|refine dt ?_;conv=>whnf|fail
   refine⟨x+1,?_,by omega,by dsimp only;omega⟩
   exact aH.by_ (fg++[(8, .old 8),(9, .old 9)]) _ 400 rfl (aa) (aa)
 ·obtain rfl:x=states.length:=by omega
  repeat' first|refine dt ?_;conv=>whnf|fail
  exact⟨rfl,(aa)⟩
def KE:bc:=[(200, .old 200),(201, .old 201),(202, .old 201)]
def qW:bc:=[(200, .old 200),(201, .old 201),(202, .old 202)]
def qX:bc:=[(200, .old 200),(201, .old 202)]
def qY:bc:=[(200, .old 200),(202, .old 201)]
abbrev Ar (lr:Nat) (p:av) (vars:List Vb) (rows:List aV):List (Nat×bf):=[(200, .box 127 (Nu p vars lr rows.length)),(lr, .row 161 ar aw rows)]
abbrev yc (p:av) (vars:List Vb) (rows:List aV):List (Nat×bf):=[(200, .box 127 (Nu p vars 202 rows.length)),(201, .dead),(202, .row 161 ar aw rows)]
def nH (kind:Int) (l:lp):Co:=bo (x9 kind) (-1) (bH l)
def xZ (kind:Int) (l:lp):Co:=bo zC (-1) (nH kind l)
def lS:lp:=⟨0,1,0,-1⟩
theorem Pe:eY lS:=⟨by unfold cd lS;dsimp only;omega,by unfold cd lS;dsimp only;omega,by unfold cd lS;dsimp only;omega,by unfold cd lS;dsimp only;omega⟩
theorem Pf:eY lF:=⟨by unfold cd lF;dsimp only;omega,by unfold cd lF;dsimp only;omega,by unfold cd lF;dsimp only;omega,by unfold cd lF;dsimp only;omega⟩
def uB (p:av):List Rw:=(i9 p).map qz++[(nH 3 lS,0),(xZ 3 lS,0)]++if jZ p then[(nH 4 lF,0),(xZ 4 lF,0)] else[]
theorem Pg (p:av) (q:aP) (sch:List Int) (rows:List aV) (hq:bD p q=0) (hs:dS (ay p.rules).length sch) (hr:rows.length<=1000):
  aj Tryz.prog 52 [.ptr 200 0] (ag.ofL (cU p (az p q sch) rows)) (fun u M=>u= .tup []/\M=ag.ofL (yc p (az p q sch) (rows++(uB p).map (aQ (az p q sch))))):=by
 have hV:=(aW hq).vld
 have wl:=(aN hV).len
 have hv:=iE hq hs
 have hlin:=fun rows l=>DF p q sch rows hq hs l
 have hsta:=fun rows kind=>Pb p (az p q sch) rows (by omega) kind
 have hrow:=fun rows=>DE p (az p q sch) rows (by omega)
 have hpl:(i9 p).length<=9:=by unfold i9;rw[List.length_append,List.length_append];split<;>simp<;>omega
 have bS:ko 100 (bH lS):=qU Pe
 have bF:ko 100 (bH lF):=qU Pf
 have sb:∀kind l,eY l->ko 1000 (nH kind l):=fun kind l h v=>by
  have a:=qU h v
  have b:=Ir kind v
  unfold nH bo
  omega
 have as3:=pW (az p q sch) (x9 3) (bH lS) 0 0 (-1) 0 (by omega) (by omega) (by omega) (fun v=>by have:=Ir 3 v;omega) (aF bS (by omega)) (by omega) (by omega)
 have as4:=pW (az p q sch) (x9 4) (bH lF) 0 0 (-1) 0 (by omega) (by omega) (by omega) (fun v=>by have:=Ir 4 v;omega) (aF bF (by omega)) (by omega) (by omega)
 have am3:=pW (az p q sch) zC (nH 3 lS) 0 0 (-1) 0 (by omega) (by omega) (by omega) (lR (by omega)) (aF (sb 3 lS Pe) (by omega)) (by omega) (by omega)
 have am4:=pW (az p q sch) zC (nH 4 lF) 0 0 (-1) 0 (by omega) (by omega) (by omega) (lR (by omega)) (aF (sb 4 lF Pf) (by omega)) (by omega) (by omega)
 rw[show bo (x9 3) (-1) (bH lS)=nH 3 lS from rfl] at as3
 rw[show bo (x9 4) (-1) (bH lF)=nH 4 lF from rfl] at as4
 rw[show bo zC (-1) (nH 3 lS)=xZ 3 lS from rfl] at am3
 rw[show bo zC (-1) (nH 4 lF)=xZ 4 lF from rfl] at am4
 have hpe:i9 p=e8++(if p.fault=0 then[⟨0,0,-1,0⟩,⟨0,0,0,-1⟩] else[])++p.resilience:=rfl
 have hpd:(uB p).map (aQ (az p q sch))=mM (az p q sch) (i9 p)++[aQ (az p q sch) (nH 3 lS,0),aQ (az p q sch) (xZ 3 lS,0)]++if jZ p then[aQ (az p q sch) (nH 4 lF,0),aQ (az p q sch) (xZ 4 lF,0)] else[]:=by
  unfold uB mM
  rw[List.map_append,List.map_append,List.map_map]
  congr 1
  split<;>rfl
 rw[hpd]
 clear hpd
 generalize az p q sch=vars at*
 have hL1:p.fault=0->i9 p=e8++[⟨0,0,-1,0⟩,⟨0,0,0,-1⟩]++p.resilience:=fun h=>by rw[hpe,if_pos h]
 have hL2:¬p.fault=0->i9 p=e8++p.resilience:=fun h=>by rw[hpe,if_neg h,List.append_nil]
 clear hpe
 generalize i9 p=LL at*
 generalize nH 3 lS=P3 at*
 generalize xZ 3 lS=M3 at*
 generalize nH 4 lF=P4 at*
 generalize xZ 4 lF=M4 at*
 obtain⟨R,hR⟩:∃R:Nat->List aV,R=fun x=>rows++mM vars (LL.take x):=⟨_,rfl⟩
 have hR0:R 0=rows:=by rw[hR];simp[mM]
 have hRn:∀x,x<LL.length->R (x+1)=R x++[aQ vars (qz (LL.getD (x:Int).toNat eX))]:=fun x hx=>by
  rw[hR];dsimp only;rw[qD LL x hx,mN,List.append_assoc]
 have hRe:R LL.length=rows++mM vars LL:=by rw[hR];dsimp only;rw[List.take_length]
 have hRl:∀x,(R x).length<=1009:=fun x=>by rw[hR];unfold mM;simp only[List.length_append,List.length_map,List.length_take];omega
 clear hR
 refine aj.renorm 400 (R:=fun u M=>u= .tup []/\∃ℓ,(ℓ=65\/ℓ=90)/\bG [(200, .old 200),(201, .old 201),(202, .old ℓ)] 400 M (yc p vars (rows++(mM vars LL++[aQ vars (P3,0),aQ vars (M3,0)]++if jZ p then[aQ vars (P4,0),aQ vars (M4,0)] else[])))) ?_ ?_
 case refine_2=>
  rintro u M ⟨rfl,ℓ,rfl|rfl,hM⟩
  ·exact⟨_,_, .tup [],rfl,hM,trivial,rfl,rfl⟩
  ·exact⟨_,_, .tup [],rfl,hM,trivial,rfl,rfl⟩
 rw[show rows++(mM vars LL++[aQ vars (P3,0),aQ vars (M3,0)]++if jZ p then[aQ vars (P4,0),aQ vars (M4,0)] else[])=(R LL.length++[aQ vars (P3,0),aQ vars (M3,0)])++if jZ p then[aQ vars (P4,0),aQ vars (M4,0)] else[] by rw[hRe];simp only[List.append_assoc]]
 refine aj.intro ab ac (cU p vars rows) Tryz.func52 rfl (by decide) ?_
 conv=>whnf
 refine bp eX cq e8 rfl ?_
 conv=>whnf
 apply once (A:=aJ Tryz.prog _ (.loop _) ([.ptr 200 0, .top, .row 26 LL.length 4, .int .i64 0]++List.replicate 89 .top) (ag.ofL (yc p vars (R 0)++[(26, .row 182 eX cq LL)])) _)
 case k=>
  intro hs0
  refine ae ?_ ?_<;>(intro hf;conv=>whnf)
  ·refine bp eX cq [⟨0,0,-1,0⟩,⟨0,0,0,-1⟩] rfl ?_
   conv=>whnf
   refine bq [⟨0,0,-1,0⟩,⟨0,0,0,-1⟩] rfl (by simp only[e8,List.length_cons,List.length_nil];omega) ?_
   conv=>whnf
   refine bq p.resilience rfl (by simp only[e8,List.length_append,List.length_cons,List.length_nil];omega) ?_
   conv=>whnf
   exact aJ.sub (by rw[hR0,hL1 hf];exact aH.by_ (KE++[(26, .old 26)]) _ 400 rfl (aa) (by unfold e8;repeat' (first|exact True.intro|exact rfl|(refine And.intro ?_ ?_)|((conv=>whnf);omega)|((conv=>whnf);simp only[List.length_append,List.length_cons,List.length_nil];done)|((conv=>whnf);simp only[List.length_append,List.length_cons,List.length_nil];omega)))) hs0
  ·refine bq p.resilience rfl (by simp only[e8,List.length_append,List.length_cons,List.length_nil];omega) ?_
   conv=>whnf
   exact aJ.sub (by rw[hR0,hL2 hf];exact aH.by_ (KE++[(26, .old 26)]) _ 400 rfl (aa) (by unfold e8;repeat' (first|exact True.intro|exact rfl|(refine And.intro ?_ ?_)|((conv=>whnf);omega)|((conv=>whnf);simp only[List.length_append,List.length_cons,List.length_nil];done)|((conv=>whnf);simp only[List.length_append,List.length_cons,List.length_nil];omega)))) hs0
 case h=>
  refine aJ.loopF ab ac (fun x:Nat=>x<=LL.length) (fun x=>[(3, .int .i64 (x:Int))]) (fun x=>yc p vars (R x)++[(26, .row 182 eX cq LL)]) (fun x=>LL.length-x) 0 (Nat.zero_le _) ?_;conv=>whnf
  refine⟨aH.by_ (qW++[(26, .old 26)]) _ 400 rfl (aa) (aa),?_⟩
  rintro x hx
  conv=>whnf
  refine ae ?_ ?_<;>(intro h1;conv=>whnf)
  ·have hxl:x<LL.length:=by omega
   have hR1:=hRn x hxl
   have hRl1:=hRl x
   have hlx:=hlin (R x) (LL.getD (x:Int).toNat eX)
   apply c5
   case k=>
    intro o1 o2 o3 o4 o5 o6
    refine fC [0,1,2,3,5,6,7,13,14] (by decide+kernel) ?_
    conv=>whnf
    repeat' first
     |exact True.intro
     |(refine And.intro ?_ ?_<;>conv=>whnf)
     |(refine bU ?_;conv=>whnf)
     |(refine bg (by clear o1 o2 o3 o4 o5 o6;omega) ?_;conv=>whnf)
     |(refine aj.call qX (cU p vars (R x)) 400 rfl (aa) (aa) hlx ?_;rintro u M' ⟨rfl,rfl⟩;refine⟨qY,Ar 202 p vars (R x), .agg [.sl 0 al (vars.map (bH (LL.getD (x:Int).toNat eX))), .int .i64 (LL.getD (x:Int).toNat eX).c],rfl,(aa),(aa),?_⟩;conv=>whnf)
     |(refine bp ar aw [aQ vars (qz (LL.getD (x:Int).toNat eX))] rfl ?_;conv=>whnf)
     |(refine bq [aQ vars (qz (LL.getD (x:Int).toNat eX))] rfl (by clear o1 o2 o3 o4 o5 o6;simp only[List.length_cons,List.length_nil];omega) ?_;conv=>whnf)
     |with_reducible assumption
     |fail
   all_goals try first
    |exact True.intro
    |exact True
   all_goals
    repeat' first|refine dt ?_;conv=>whnf|fail
    refine⟨x+1,?_,by omega,by dsimp only;omega⟩
    dsimp only
    rw[hR1]
    exact aH.by_ [(200, .old 200),(201, .old 201),(202, .old 45),(26, .old 26)] _ 400 rfl (aa) (aa)
  ·obtain rfl:x=LL.length:=by omega
   have hRl1:=hRl LL.length
   have h3:=hsta (R LL.length) 3
   have h4:=hsta (R LL.length++[aQ vars (P3,0),aQ vars (M3,0)]) 4
   have hlS:=hlin (R LL.length) lS
   have hlF:=hlin (R LL.length++[aQ vars (P3,0),aQ vars (M3,0)]) lF
   have hrw3:=hrow (R LL.length)
   have hrw4:=hrow (R LL.length++[aQ vars (P3,0),aQ vars (M3,0)])
   rw[show lS.c=0 from rfl] at hlS
   rw[show lF.c=0 from rfl] at hlF
   generalize R LL.length=RL at*
   generalize x9 3=D3 at*
   generalize x9 4=D4 at*
   generalize hLS:bH lS=LS at*
   generalize hLF:bH lF=LF at*
   clear hLS hLF
   refine aj.call qX (cU p vars RL) 400 rfl (aa) (aa) h3 ?_
   rintro u M' ⟨rfl,rfl⟩
   refine⟨qY,Ar 202 p vars RL, .agg [.sl 0 al (vars.map D3), .int .i64 0],rfl,(aa),(aa),?_⟩
   conv=>whnf
   refine aj.call qX (cU p vars RL) 400 rfl (aa) (aa) hlS ?_
   rintro u M' ⟨rfl,rfl⟩
   refine⟨qY,Ar 202 p vars RL, .agg [.sl 0 al (vars.map LS), .int .i64 0],rfl,(aa),(aa),?_⟩
   conv=>whnf
   refine oP as3 ?_
   conv=>whnf
   apply c5
   case k=>
    intro o1 o2 o3 o4 o5 o6
    refine fC [0,1,2,3,6,12,13] (by decide+kernel) ?_
    conv=>whnf
    repeat' first
     |exact True.intro
     |(refine And.intro ?_ ?_<;>conv=>whnf)
     |(refine bU ?_;conv=>whnf)
     |(refine aj.call qX (cU p vars (RL)) 400 rfl (aa) (aa) hrw3 ?_;rintro u M' ⟨rfl,rfl⟩;refine⟨qY,Ar 202 p vars (RL), .agg [.sl 0 al (vars.map zC), .int .i64 0],rfl,(aa),(aa),?_⟩;conv=>whnf)
     |(refine oP (am3) ?_;conv=>whnf)
     |(refine bp ar aw [aQ vars (P3,0),aQ vars (M3,0)] rfl ?_;conv=>whnf)
     |(refine bq [aQ vars (P3,0),aQ vars (M3,0)] rfl (by clear o1 o2 o3 o4 o5 o6;simp only[List.length_cons,List.length_nil];omega) ?_;conv=>whnf)
     |with_reducible assumption
     |fail
   all_goals try first
    |exact True.intro
    |exact True
   all_goals
    refine dC (fu p) (fun _=>?_) (fun _=>?_)<;>(conv=>whnf)
    ·rename_i hw
     rw[if_pos hw]
     refine aj.call [(200, .old 200),(201, .old 65)] (cU p vars (RL++[aQ vars (P3,0),aQ vars (M3,0)])) 400 rfl (aa) (aa) h4 ?_
     rintro u M' ⟨rfl,rfl⟩
     refine⟨[(200, .old 200),(65, .old 201)],Ar 65 p vars (RL++[aQ vars (P3,0),aQ vars (M3,0)]), .agg [.sl 0 al (vars.map D4), .int .i64 0],rfl,(aa),(aa),?_⟩
     conv=>whnf
     refine aj.call [(200, .old 200),(201, .old 65)] (cU p vars (RL++[aQ vars (P3,0),aQ vars (M3,0)])) 400 rfl (aa) (aa) hlF ?_
     rintro u M' ⟨rfl,rfl⟩
     refine⟨[(200, .old 200),(65, .old 201)],Ar 65 p vars (RL++[aQ vars (P3,0),aQ vars (M3,0)]), .agg [.sl 0 al (vars.map LF), .int .i64 0],rfl,(aa),(aa),?_⟩
     conv=>whnf
     refine oP as4 ?_
     conv=>whnf
     refine fC [0,1,2,3,6,12,13] (by decide+kernel) ?_
     conv=>whnf
     repeat' first
      |exact True.intro
      |exact⟨rfl,90, .inr rfl,(aa)⟩
      |(refine And.intro ?_ ?_<;>conv=>whnf)
      |(refine bU ?_;conv=>whnf)
      |(refine aj.call [(200, .old 200),(201, .old 65)] (cU p vars (RL++[aQ vars (P3,0),aQ vars (M3,0)])) 400 rfl (aa) (aa) hrw4 ?_;rintro u M' ⟨rfl,rfl⟩;refine⟨[(200, .old 200),(65, .old 201)],Ar 65 p vars (RL++[aQ vars (P3,0),aQ vars (M3,0)]), .agg [.sl 0 al (vars.map zC), .int .i64 0],rfl,(aa),(aa),?_⟩;conv=>whnf)
      |(refine oP (am4) ?_;conv=>whnf)
      |(refine bp ar aw [aQ vars (P4,0),aQ vars (M4,0)] rfl ?_;conv=>whnf)
      |(refine bq [aQ vars (P4,0),aQ vars (M4,0)] rfl (by simp only[List.length_append,List.length_cons,List.length_nil];omega) ?_;conv=>whnf)
      |fail
    ·rename_i hw
     rw[if_neg hw,List.append_nil]
     exact⟨rfl,65, .inl rfl,(aa)⟩
end Go.Proofs.YtekmminpfhacpaaGreatDoor
