import Derived.Test.YtnjggjhkfncnlaaGreatDoorY1
import Derived.Test.YtnjggjhkfncnlaaGreatDoorW2
import Derived.Test.YtnjggjhkfncnlaaGreatDoorW0
import Derived.Test.YtnjggjhkfncnlaaGreatDoorW3
set_option linter.unusedVariables false
set_option linter.unusedSimpArgs false
namespace Go.Proofs.YtnjggjhkfncnlaaGreatDoor
set_option maxRecDepth 100000
set_option maxHeartbeats 16000000
def bi (A B:List Int) (x:Nat):List Int:=B.take x++A.drop x
theorem gR (A B:List Int):bi A B 0=A:=by simp[bi]
theorem jl {A B:List Int} (h:A.length=B.length):bi A B A.length=B:=by simp[bi,h]
theorem kP {A B:List Int} (h:A.length=B.length) (x:Nat):(bi A B x).length=A.length:=by
 unfold bi
 rw[List.length_append,List.length_take,List.length_drop];omega
theorem ib {A B:List Int} (h:A.length=B.length) {x:Nat} (hx:x<A.length):(bi A B x).getD x 0=A.getD x 0:=by
 unfold bi
 rw[gD,List.getElem?_append_right (by rw[List.length_take];omega),List.length_take,List.getElem?_drop,gD]
 congr 2
 omega
theorem jm {A B:List Int} (h:A.length=B.length) {x:Nat} (hx:x<A.length):(bi A B x).set x (B.getD x 0)=bi A B (x+1):=by
 unfold bi
 have hl:(B.take x).length=x:=by rw[List.length_take];omega
 rw[List.set_append_right _ _ (by omega),hl,Nat.sub_self,List.drop_eq_getElem_cons hx,List.set_cons_zero,List.take_succ_eq_append_getElem (by omega),ay 0 (by omega),List.append_assoc]
 rfl
theorem Jy (A B D:List Int) (c d k:Int) (hA:A.length=B.length) (hD:D.length=A.length) (hl:A.length<=1000000) (hB:∀x,x<A.length->B.getD x 0=A.getD x 0+k*D.getD x 0)
  (hk:-100<=k/\k<=100) (ha:∀x,x<A.length->-1000000<=A.getD x 0/\A.getD x 0<=1000000) (hd:∀x,x<A.length->-1000000<=k*D.getD x 0/\k*D.getD x 0<=1000000) (hc:-1000000<=c/\c<=1000000) (hkd:-1000000<=k*d/\k*d<=1000000):
  ab Tryz.prog 179 [.agg [.sl 0 an A, .int .i64 c], .agg [.sl 0 an D, .int .i64 d], .int .i64 k] (fun u=>u= .agg [.sl 0 an B, .int .i64 (c+k*d)]):=by
 refine ab.intro ac ag Tryz.func179 rfl (by decide) ?_;(conv=>whnf)
 refine al rfl ?_
 conv=>whnf
 refine al rfl ?_
 conv=>whnf
 apply cA
 case k=>
  intro o1 o2 o3 o4 o5 o6
  refine em [1,2,4,5,6,7,8,11] (by decide+kernel) ?_
  conv=>whnf
  repeat' first
   |exact True.intro
   |(refine And.intro ?_ ?_<;>conv=>whnf)
   |(refine bw 0 an [] rfl ?_;conv=>whnf)
   |(refine cb ?_;conv=>whnf)
   |(refine ub trivial (by clear o1 o2 o3 o4 o5 o6;omega) ?_;conv=>whnf)
   |(refine bD A rfl (by clear o1 o2 o3 o4 o5 o6;simp only[List.length_nil];omega) ?_;conv=>whnf)
   |with_reducible exact o1
   |with_reducible exact o2
   |with_reducible exact o3
   |with_reducible exact o4
   |with_reducible exact o5
   |with_reducible exact o6
   |fail
 all_goals try first
  |exact True.intro
  |exact True
 all_goals
  refine aH.loopF ac ag (fun x:Nat=>x<=A.length) (fun x=>[(9, .top),(8, .int .i64 (x:Int))]) (fun x=>[(6, .box 154 [.nilsl, .int .i64 0]),(7, .box 154 [.row 12 A.length 1, .int .i64 (c+k*d)]),(12, .row 3 0 an (bi A B x))]) (fun x=>A.length-x) 0 (Nat.zero_le _) ?_;conv=>whnf
  refine⟨by rw[gR];exact aL.by_ [(6, .old 6),(7, .old 7),(12, .old 12)] _ 400 rfl (aa) (aa),?_⟩
  rintro x hx
  conv=>whnf
  refine ah ?_ ?_<;>(intro h1;conv=>whnf)
  ·have hxl:x<A.length:=by omega
   have e2:-1000000<=(bi A B x).getD (x:Int).toNat 0/\(bi A B x).getD (x:Int).toNat 0<=1000000:=by rw[tN,ib hA hxl];exact ha x hxl
   have e3:-1000000<=k*D.getD (x:Int).toNat 0/\k*D.getD (x:Int).toNat 0<=1000000:=by rw[tN];exact hd x hxl
   have e5:(bi A B x).set (x:Int).toNat ((bi A B x).getD (x:Int).toNat 0+k*D.getD (x:Int).toNat 0)=bi A B (x+1):=by
    rw[tN,ib hA hxl,<-hB x hxl,jm hA hxl]
   refine dI ?_
   conv=>whnf
   repeat' ((first|refine nI ?_|refine aI ?_|refine tI ?_|refine fI ?_|fail);conv=>whnf)
   refine ap ((bi A B x).getD (x:Int).toNat 0+k*D.getD (x:Int).toNat 0) rfl ?_
   rw[e5]
   conv=>whnf
   repeat' ((first|refine nI ?_|refine aI ?_|refine tI ?_|refine fI ?_|fail);conv=>whnf)
   refine⟨x+1,?_,by omega,by dsimp only;omega⟩
   exact aL.by_ [(6, .old 6),(7, .old 7),(12, .old 12)] _ 400 rfl (aa) (aa)
  ·obtain rfl:x=A.length:=by omega
   rw[jl hA]
   exact⟨rfl,rfl⟩
theorem Ky (vars:List Vb) (a b:Co) (c d k:Int) (hl:vars.length<=1000000) (hk:-100<=k/\k<=100) (ha:iY 1000000 a) (hb:iY 10000 b) (hc:-1000000<=c/\c<=1000000) (hd:-10000<=d/\d<=10000):
  ab Tryz.prog 179 [.agg [.sl 0 an (vars.map a), .int .i64 c], .agg [.sl 0 an (vars.map b), .int .i64 d], .int .i64 k] (fun u=>u= .agg [.sl 0 an (vars.map (ba a k b)), .int .i64 (c+k*d)]):=by
 have hm:∀y:Int,-10000<=y/\y<=10000->-1000000<=k*y/\k*y<=1000000:=fun y hy=>by
  have:=tg (A:=100) (B:=10000) hk hy
  omega
 refine Jy (vars.map a) (vars.map (ba a k b)) (vars.map b) c d k (by simp) (by simp) (by simpa using hl) (fun x hx=>?_) hk (fun x hx=>?_) (fun x hx=>?_) hc (hm d hd)
 ·rw[List.length_map] at hx
  rw[b9 _ hx,b9 _ hx,b9 _ hx];rfl
 ·rw[List.length_map] at hx
  rw[b9 _ hx];exact ha _
 ·rw[List.length_map] at hx
  rw[b9 _ hx];exact hm _ (hb _)
abbrev HP (p:au) (vars:List Vb) (lr nr:Nat):List AV:=[.str p.name, .int .i64 p.topology, .sl t0 dX p.states, .sl t0 dX p.messages, .sl t0 dX p.values, .int .i64 p.fault, .sl dc bM p.resilience, .sl 0 an p.initial, .sl 0 an p.leader, .sl ar dF p.rules, .sl cm dJ vars, .row lr nr 2]
abbrev cq (p:au) (vars:List Vb) (rows:List cK):List (Nat×cn):=[(200, .box 168 (HP p vars 201 rows.length)),(201, .row 154 bz bE rows)]
theorem yD (p:au) (vars:List Vb) (rows:List cK) (hv:vars.length<=1000000):
  ak Tryz.prog 181 [.ptr 200 0] (aj.ofL (cq p vars rows)) (fun u M=>u= .agg [.sl 0 an (vars.map zC), .int .i64 0]/\M=aj.ofL (cq p vars rows)):=by
 rw[<-mI]
 refine ak.idn rfl (aa) ?_
 refine ak.introL ac ag (cq p vars rows) Tryz.func181 rfl (by decide) ?_
 conv=>whnf
 refine xF 0 an 0 rfl (by dsimp only;omega) ?_
 conv=>whnf
 exact⟨rfl,(aa)⟩
def dS:cT:=[(200, .old 200),(201, .old 201)]
theorem r4 (p:au) (vars:List Vb) (rows:List cK) (hv:vars.length<=1000000):
  ak Tryz.prog 181 [.ptr 200 0] (aj.ofL (cq p vars rows)) (fun u M=>u= .agg [.row 221 vars.length 1, .int .i64 0]/\M=aj.ofL (cq p vars rows++[(221, .row 3 0 an (vars.map zC))])):=by
 rw[<-mI]
 refine ak.renorm 400 (R:=fun u M=>u= .agg [.row 8 vars.length 1, .int .i64 0]/\cU (dS++[(221, .old 8)]) 400 M (cq p vars rows++[(221, .row 3 0 an (List.replicate vars.length (0:Int)))])) ?_ ?_
 case refine_2=>
  rintro u M ⟨rfl,hM⟩
  exact⟨dS++[(221, .old 8)],_,_,rfl,hM,(aa),rfl,rfl⟩
 refine ak.intro ac ag (cq p vars rows) Tryz.func181 rfl (by decide) ?_
 conv=>whnf
 refine xF 0 an 0 rfl (by dsimp only;omega) ?_
 conv=>whnf
 exact⟨rfl,(aa)⟩
theorem yE (p:au) (q:aV) (sch:List Int) (rows:List cK) (hq:aZ p q=0) (hs:cM (aA p.rules).length sch) (l:g7):
  ak Tryz.prog 178 [.ptr 200 0, .agg (bM l)] (aj.ofL (cq p (ao p q sch) rows)) (fun u M=>u= .agg [.sl 0 an ((ao p q sch).map (bf l)), .int .i64 l.c]/\M=aj.ofL (cq p (ao p q sch) rows)):=by
 have hv:=dM hq hs
 have hr:=E9 (sch:=sch) hq l
 have h3:3<=(ao p q sch).length:=by unfold ao;rw[List.length_append,List.length_append];simp only[List.length_cons,List.length_nil];omega
 have hz:(ao p q sch).map zC=[0,0,0]++List.replicate ((ao p q sch).length-3) 0:=by
  rw[<-mI,show([0,0,0]:List Int)=List.replicate 3 0 from rfl,List.replicate_append_replicate]
  congr 1;omega
 have hrow:=r4 p (ao p q sch) rows (by omega)
 rw[hr]
 rw[hz] at hrow
 generalize ao p q sch=vars at*
 generalize List.replicate (vars.length-3) (0:Int)=Z at*
 refine ak.idn rfl (aa) ?_
 refine ak.introL ac ag (cq p vars rows) Tryz.func178 rfl (by decide) ?_
 simp only[eV]
 rw[show Tryz.f178.ntmps=27 from rfl]
 simp only[cy]
 simp only[dv]
 rw[bu]
 simp only[gv,aJ,List.map_cons,List.map_nil,bc]
 conv=>whnf
 refine al rfl ?_
 conv=>whnf
 refine ak.call dS (cq p vars rows) 400 rfl (aa) (aa) hrow ?_
 rintro u M' ⟨rfl,rfl⟩
 refine⟨dS++[(221, .old 221)],cq p vars rows++[(221, .row 3 0 an ([0,0,0]++Z))], .agg [.row 221 vars.length 1, .int .i64 0],rfl,(aa),(aa),?_⟩
 conv=>whnf
 refine nI ?_
 conv=>whnf
 refine ap l.n rfl ?_
 conv=>whnf
 refine nI ?_
 conv=>whnf
 refine ap l.t rfl ?_
 conv=>whnf
 refine nI ?_
 conv=>whnf
 refine ap l.f rfl ?_
 conv=>whnf
 exact⟨rfl,(aa)⟩
theorem Jz (p:au) (vars:List Vb) (rows:List cK) (hv:vars.length<=1000000) (kind:Int):
  ak Tryz.prog 180 [.ptr 200 0, .int .i64 kind] (aj.ofL (cq p vars rows)) (fun u M=>u= .agg [.sl 0 an (vars.map (jU kind)), .int .i64 0]/\M=aj.ofL (cq p vars rows)):=by
 have hrow:=r4 p vars rows hv
 have hl:(vars.map zC).length=(vars.map (jU kind)).length:=by simp
 have hA:(vars.map zC).length=vars.length:=by simp
 have hg:∀x:Nat,x<vars.length->(vars.map zC).getD x 0=0:=fun x hx=>by rw[b9 _ hx];rfl
 have hB:∀x:Nat,x<vars.length->(vars.map (jU kind)).getD x 0=if(vars.getD (x:Int).toNat cm).kind=kind then 1 else 0:=fun x hx=>by rw[b9 _ hx,tN];rfl
 generalize vars.map (jU kind)=B at*
 generalize vars.map zC=A at*
 refine ak.idn rfl (aa) ?_
 refine ak.introL ac ag (cq p vars rows) Tryz.func180 rfl (by decide) ?_
 conv=>whnf
 refine ak.call dS (cq p vars rows) 400 rfl (aa) (aa) hrow ?_
 rintro u M' ⟨rfl,rfl⟩
 refine⟨dS++[(221, .old 221)],cq p vars rows++[(221, .row 3 0 an A)], .agg [.row 221 vars.length 1, .int .i64 0],rfl,(aa),(aa),?_⟩
 conv=>whnf
 refine aH.loopF ac ag (fun x:Nat=>x<=vars.length) (fun x=>[(6, .int .i64 (x:Int))]) (fun x=>cq p vars rows++[(4, .box 154 [.nilsl, .int .i64 0]),(5, .box 154 [.row 221 vars.length 1, .int .i64 0]),(221, .row 3 0 an (bi A B x))]) (fun x=>vars.length-x) 0 (Nat.zero_le _) ?_;conv=>whnf
 refine⟨by rw[gR];exact aL.by_ (dS++[(4, .old 4),(5, .old 5),(221, .old 221)]) _ 400 rfl (aa) (aa),?_⟩
 rintro x hx
 conv=>whnf
 refine ah ?_ ?_<;>(intro h1;conv=>whnf)
 ·have hxl:x<vars.length:=by omega
  have e5:=jm hl (show x<A.length by omega)
  have e4:=ib hl (show x<A.length by omega)
  have e6:=kP hl x
  rw[hB x hxl] at e5
  repeat' ((first|refine nI ?_|refine aI ?_|refine tI ?_|refine fI ?_|fail);conv=>whnf)
  refine ah ?_ ?_<;>(intro h2;conv=>whnf)
  ·rw[if_pos h2] at e5
   repeat' ((first|refine nI ?_|refine aI ?_|refine tI ?_|refine fI ?_|fail);conv=>whnf)
   refine ap 1 rfl ?_
   rw[tN,e5]
   conv=>whnf
   repeat' ((first|refine nI ?_|refine aI ?_|refine tI ?_|refine fI ?_|fail);conv=>whnf)
   refine⟨x+1,?_,by omega,by dsimp only;omega⟩
   exact aL.by_ (dS++[(4, .old 4),(5, .old 5),(221, .old 221)]) _ 400 rfl (aa) (aa)
  ·rw[if_neg h2,<-hg x hxl,<-e4,gD,gL (by omega),Option.getD_some,List.set_getElem_self] at e5
   repeat' ((first|refine nI ?_|refine aI ?_|refine tI ?_|refine fI ?_|fail);conv=>whnf)
   refine⟨x+1,?_,by omega,by dsimp only;omega⟩
   dsimp only
   rw[<-e5]
   exact aL.by_ (dS++[(4, .old 4),(5, .old 5),(221, .old 221)]) _ 400 rfl (aa) (aa)
 ·obtain rfl:x=vars.length:=by omega
  rw[show vars.length=A.length from hA.symm,jl hl]
  conv=>whnf
  exact⟨rfl,(aa)⟩
theorem mR {L:List Int} {x:Nat} (h:L.getD x 0=0) (hx:x<L.length):L.set x 0=L:=by
 have:L[x]=0:=by rw[<-ay 0 hx];exact h
 rw[<-this,List.set_getElem_self]
theorem Dh (p:au) (vars:List Vb) (rows:List cK) (hv:vars.length<=1000000) (hrl:p.rules.length<=1000) (hin:∀x,x<vars.length->(vars.getD x cm).kind=5->0<=(vars.getD x cm).idx/\(vars.getD x cm).idx<p.rules.length) (seg:Nat) (state:Int):
  ak Tryz.prog 183 [.ptr 200 0, .int .i64 (seg:Int), .int .i64 state, .bool false] (aj.ofL (cq p vars rows)) (fun u M=>u= .agg [.sl 0 an (vars.map (br p.rules 3 5 state seg)), .int .i64 0]/\M=aj.ofL (cq p vars rows)):=by
 have hrow:=r4 p vars rows hv
 have hl:(vars.map zC).length=(vars.map (br p.rules 3 5 state seg)).length:=by simp
 have hA:(vars.map zC).length=vars.length:=by simp
 have hg:∀x:Nat,x<vars.length->(vars.map zC).getD x 0=0:=fun x hx=>by rw[b9 _ hx];rfl
 have hB:∀x:Nat,x<vars.length->(vars.map (br p.rules 3 5 state seg)).getD x 0=br p.rules 3 5 state seg (vars.getD x cm):=fun x hx=>by rw[b9 _ hx]
 generalize vars.map (br p.rules 3 5 state seg)=B at*
 generalize vars.map zC=A at*
 refine ak.idn rfl (aa) ?_
 refine ak.introL ac ag (cq p vars rows) Tryz.func183 rfl (by decide) ?_
 conv=>whnf
 refine ak.call dS (cq p vars rows) 400 rfl (aa) (aa) hrow ?_
 rintro u M' ⟨rfl,rfl⟩
 refine⟨dS++[(221, .old 221)],cq p vars rows++[(221, .row 3 0 an A)], .agg [.row 221 vars.length 1, .int .i64 0],rfl,(aa),(aa),?_⟩
 conv=>whnf
 refine aH.loopF ac ag (fun x:Nat=>x<=vars.length) (fun x=>[(12, .int .i64 (x:Int))]) (fun x=>cq p vars rows++[(8, .box 154 [.nilsl, .int .i64 0]),(11, .box 154 [.row 221 vars.length 1, .int .i64 0]),(221, .row 3 0 an (bi A B x))]) (fun x=>vars.length-x) 0 (Nat.zero_le _) ?_;conv=>whnf
 refine⟨by rw[gR];exact aL.by_ (dS++[(8, .old 8),(11, .old 11),(221, .old 221)]) _ 400 rfl (aa) (aa),?_⟩
 rintro x hx
 conv=>whnf
 refine ah ?_ ?_<;>(intro h1;conv=>whnf)
 ·have hxl:x<vars.length:=by omega
  have e5:=jm hl (show x<A.length by omega)
  have e4:=ib hl (show x<A.length by omega)
  have e6:=kP hl x
  have e0:=mR (L:=bi A B x) (x:=x) (by rw[e4];exact hg x hxl) (by omega)
  have hinx:=hin x hxl
  rw[hB x hxl] at e5
  clear e4 hB hg hin
  refine nI ?_
  rw[tN]
  generalize vars.getD x cm=v at*
  by_cases k1:v.kind=3
  ·by_cases k2:v.idx=state
   ·conv=>whnf
    have hv':br p.rules 3 5 state seg v=1:=by
     unfold br
     (repeat' split)<;>omega
    repeat' ((first|refine nI ?_|refine aI ?_|refine tI ?_|refine fI ?_|fail);conv=>whnf)
    refine ap 1 rfl ?_
    conv=>whnf
    repeat' ((first|refine nI ?_|refine aI ?_|refine tI ?_|refine fI ?_|fail);conv=>whnf)
    refine dI ?_
    conv=>whnf
    repeat' ((first|refine nI ?_|refine aI ?_|refine tI ?_|refine fI ?_|fail);conv=>whnf)
    refine dI ?_
    conv=>whnf
    repeat' ((first|refine nI ?_|refine aI ?_|refine tI ?_|refine fI ?_|fail);conv=>whnf)
    have e6:((bi A B x).set (x:Int).toNat 1)=bi A B (x+1):=by rw[tN,<-e5,hv']
    refine⟨x+1,?_,by omega,by dsimp only;omega⟩
    dsimp only
    rw[<-e6]
    exact aL.by_ (dS++[(8, .old 8),(11, .old 11),(221, .old 221)]) _ 400 rfl (aa) (aa)
   ·conv=>whnf
    have hv':br p.rules 3 5 state seg v=0:=by
     unfold br
     (repeat' split)<;>omega
    repeat' ((first|refine nI ?_|refine aI ?_|refine tI ?_|refine fI ?_|fail);conv=>whnf)
    refine dI ?_
    conv=>whnf
    repeat' ((first|refine nI ?_|refine aI ?_|refine tI ?_|refine fI ?_|fail);conv=>whnf)
    refine dI ?_
    conv=>whnf
    repeat' ((first|refine nI ?_|refine aI ?_|refine tI ?_|refine fI ?_|fail);conv=>whnf)
    have e6:(bi A B x)=bi A B (x+1):=by rw[<-e5,hv',e0]
    refine⟨x+1,?_,by omega,by dsimp only;omega⟩
    dsimp only
    rw[<-e6]
    exact aL.by_ (dS++[(8, .old 8),(11, .old 11),(221, .old 221)]) _ 400 rfl (aa) (aa)
  ·by_cases k3:v.kind=5
   ·have hi:=hinx k3
    by_cases k4:v.seg<=seg
    ·by_cases k5:(p.rules.getD v.idx.toNat ar).dst=state
     ·by_cases k6:(p.rules.getD v.idx.toNat ar).src=state
      ·conv=>whnf
       have hv':br p.rules 3 5 state seg v=-1:=by
        unfold br
        (repeat' split)<;>omega
       repeat' ((first|refine nI ?_|refine aI ?_|refine tI ?_|refine fI ?_|fail);conv=>whnf)
       refine dI ?_
       conv=>whnf
       repeat' ((first|refine nI ?_|refine aI ?_|refine tI ?_|refine fI ?_|fail);conv=>whnf)
       refine ap 1 rfl ?_
       conv=>whnf
       repeat' ((first|refine nI ?_|refine aI ?_|refine tI ?_|refine fI ?_|fail);conv=>whnf)
       refine dI ?_
       conv=>whnf
       repeat' ((first|refine nI ?_|refine aI ?_|refine tI ?_|refine fI ?_|fail);conv=>whnf)
       refine ap (-1) rfl ?_
       conv=>whnf
       repeat' ((first|refine nI ?_|refine aI ?_|refine tI ?_|refine fI ?_|fail);conv=>whnf)
       have e6:(((bi A B x).set (x:Int).toNat 1).set (x:Int).toNat (-1))=bi A B (x+1):=by rw[tN,List.set_set,<-e5,hv']
       refine⟨x+1,?_,by omega,by dsimp only;omega⟩
       dsimp only
       rw[<-e6]
       exact aL.by_ (dS++[(8, .old 8),(11, .old 11),(221, .old 221)]) _ 400 rfl (aa) (aa)
      ·conv=>whnf
       have hv':br p.rules 3 5 state seg v=1:=by
        unfold br
        (repeat' split)<;>omega
       repeat' ((first|refine nI ?_|refine aI ?_|refine tI ?_|refine fI ?_|fail);conv=>whnf)
       refine dI ?_
       conv=>whnf
       repeat' ((first|refine nI ?_|refine aI ?_|refine tI ?_|refine fI ?_|fail);conv=>whnf)
       refine ap 1 rfl ?_
       conv=>whnf
       repeat' ((first|refine nI ?_|refine aI ?_|refine tI ?_|refine fI ?_|fail);conv=>whnf)
       refine dI ?_
       conv=>whnf
       repeat' ((first|refine nI ?_|refine aI ?_|refine tI ?_|refine fI ?_|fail);conv=>whnf)
       have e6:((bi A B x).set (x:Int).toNat 1)=bi A B (x+1):=by rw[tN,<-e5,hv']
       refine⟨x+1,?_,by omega,by dsimp only;omega⟩
       dsimp only
       rw[<-e6]
       exact aL.by_ (dS++[(8, .old 8),(11, .old 11),(221, .old 221)]) _ 400 rfl (aa) (aa)
     ·by_cases k6:(p.rules.getD v.idx.toNat ar).src=state
      ·conv=>whnf
       have hv':br p.rules 3 5 state seg v=-1:=by
        unfold br
        (repeat' split)<;>omega
       repeat' ((first|refine nI ?_|refine aI ?_|refine tI ?_|refine fI ?_|fail);conv=>whnf)
       refine dI ?_
       conv=>whnf
       repeat' ((first|refine nI ?_|refine aI ?_|refine tI ?_|refine fI ?_|fail);conv=>whnf)
       refine dI ?_
       conv=>whnf
       repeat' ((first|refine nI ?_|refine aI ?_|refine tI ?_|refine fI ?_|fail);conv=>whnf)
       refine ap (-1) rfl ?_
       conv=>whnf
       repeat' ((first|refine nI ?_|refine aI ?_|refine tI ?_|refine fI ?_|fail);conv=>whnf)
       have e6:((bi A B x).set (x:Int).toNat (-1))=bi A B (x+1):=by rw[tN,<-e5,hv']
       refine⟨x+1,?_,by omega,by dsimp only;omega⟩
       dsimp only
       rw[<-e6]
       exact aL.by_ (dS++[(8, .old 8),(11, .old 11),(221, .old 221)]) _ 400 rfl (aa) (aa)
      ·conv=>whnf
       have hv':br p.rules 3 5 state seg v=0:=by
        unfold br
        (repeat' split)<;>omega
       repeat' ((first|refine nI ?_|refine aI ?_|refine tI ?_|refine fI ?_|fail);conv=>whnf)
       refine dI ?_
       conv=>whnf
       repeat' ((first|refine nI ?_|refine aI ?_|refine tI ?_|refine fI ?_|fail);conv=>whnf)
       refine dI ?_
       conv=>whnf
       repeat' ((first|refine nI ?_|refine aI ?_|refine tI ?_|refine fI ?_|fail);conv=>whnf)
       have e6:(bi A B x)=bi A B (x+1):=by rw[<-e5,hv',e0]
       refine⟨x+1,?_,by omega,by dsimp only;omega⟩
       dsimp only
       rw[<-e6]
       exact aL.by_ (dS++[(8, .old 8),(11, .old 11),(221, .old 221)]) _ 400 rfl (aa) (aa)
    ·conv=>whnf
     have hv':br p.rules 3 5 state seg v=0:=by
      unfold br
      (repeat' split)<;>omega
     repeat' ((first|refine nI ?_|refine aI ?_|refine tI ?_|refine fI ?_|fail);conv=>whnf)
     refine dI ?_
     conv=>whnf
     repeat' ((first|refine nI ?_|refine aI ?_|refine tI ?_|refine fI ?_|fail);conv=>whnf)
     refine dI ?_
     conv=>whnf
     repeat' ((first|refine nI ?_|refine aI ?_|refine tI ?_|refine fI ?_|fail);conv=>whnf)
     have e6:(bi A B x)=bi A B (x+1):=by rw[<-e5,hv',e0]
     refine⟨x+1,?_,by omega,by dsimp only;omega⟩
     dsimp only
     rw[<-e6]
     exact aL.by_ (dS++[(8, .old 8),(11, .old 11),(221, .old 221)]) _ 400 rfl (aa) (aa)
   ·conv=>whnf
    have hv':br p.rules 3 5 state seg v=0:=by
     unfold br
     (repeat' split)<;>omega
    repeat' ((first|refine nI ?_|refine aI ?_|refine tI ?_|refine fI ?_|fail);conv=>whnf)
    refine dI ?_
    conv=>whnf
    repeat' ((first|refine nI ?_|refine aI ?_|refine tI ?_|refine fI ?_|fail);conv=>whnf)
    refine dI ?_
    conv=>whnf
    repeat' ((first|refine nI ?_|refine aI ?_|refine tI ?_|refine fI ?_|fail);conv=>whnf)
    have e6:(bi A B x)=bi A B (x+1):=by rw[<-e5,hv',e0]
    refine⟨x+1,?_,by omega,by dsimp only;omega⟩
    dsimp only
    rw[<-e6]
    exact aL.by_ (dS++[(8, .old 8),(11, .old 11),(221, .old 221)]) _ 400 rfl (aa) (aa)
 ·obtain rfl:x=vars.length:=by omega
  rw[show vars.length=A.length from hA.symm,jl hl]
  conv=>whnf
  exact⟨rfl,(aa)⟩
theorem JA (p:au) (vars:List Vb) (rows:List cK) (hv:vars.length<=1000000) (hrl:p.rules.length<=1000) (hin:∀x,x<vars.length->(vars.getD x cm).kind=6->0<=(vars.getD x cm).idx/\(vars.getD x cm).idx<p.rules.length) (seg:Nat) (state:Int):
  ak Tryz.prog 183 [.ptr 200 0, .int .i64 (seg:Int), .int .i64 state, .bool true] (aj.ofL (cq p vars rows)) (fun u M=>u= .agg [.sl 0 an (vars.map (br p.rules 4 6 state seg)), .int .i64 0]/\M=aj.ofL (cq p vars rows)):=by
 have hrow:=r4 p vars rows hv
 have hl:(vars.map zC).length=(vars.map (br p.rules 4 6 state seg)).length:=by simp
 have hA:(vars.map zC).length=vars.length:=by simp
 have hg:∀x:Nat,x<vars.length->(vars.map zC).getD x 0=0:=fun x hx=>by rw[b9 _ hx];rfl
 have hB:∀x:Nat,x<vars.length->(vars.map (br p.rules 4 6 state seg)).getD x 0=br p.rules 4 6 state seg (vars.getD x cm):=fun x hx=>by rw[b9 _ hx]
 generalize vars.map (br p.rules 4 6 state seg)=B at*
 generalize vars.map zC=A at*
 refine ak.idn rfl (aa) ?_
 refine ak.introL ac ag (cq p vars rows) Tryz.func183 rfl (by decide) ?_
 conv=>whnf
 refine ak.call dS (cq p vars rows) 400 rfl (aa) (aa) hrow ?_
 rintro u M' ⟨rfl,rfl⟩
 refine⟨dS++[(221, .old 221)],cq p vars rows++[(221, .row 3 0 an A)], .agg [.row 221 vars.length 1, .int .i64 0],rfl,(aa),(aa),?_⟩
 conv=>whnf
 refine aH.loopF ac ag (fun x:Nat=>x<=vars.length) (fun x=>[(12, .int .i64 (x:Int))]) (fun x=>cq p vars rows++[(8, .box 154 [.nilsl, .int .i64 0]),(11, .box 154 [.row 221 vars.length 1, .int .i64 0]),(221, .row 3 0 an (bi A B x))]) (fun x=>vars.length-x) 0 (Nat.zero_le _) ?_;conv=>whnf
 refine⟨by rw[gR];exact aL.by_ (dS++[(8, .old 8),(11, .old 11),(221, .old 221)]) _ 400 rfl (aa) (aa),?_⟩
 rintro x hx
 conv=>whnf
 refine ah ?_ ?_<;>(intro h1;conv=>whnf)
 ·have hxl:x<vars.length:=by omega
  have e5:=jm hl (show x<A.length by omega)
  have e4:=ib hl (show x<A.length by omega)
  have e6:=kP hl x
  have e0:=mR (L:=bi A B x) (x:=x) (by rw[e4];exact hg x hxl) (by omega)
  have hinx:=hin x hxl
  rw[hB x hxl] at e5
  clear e4 hB hg hin
  refine nI ?_
  rw[tN]
  generalize vars.getD x cm=v at*
  by_cases k1:v.kind=4
  ·by_cases k2:v.idx=state
   ·conv=>whnf
    have hv':br p.rules 4 6 state seg v=1:=by
     unfold br
     (repeat' split)<;>omega
    repeat' ((first|refine nI ?_|refine aI ?_|refine tI ?_|refine fI ?_|fail);conv=>whnf)
    refine ap 1 rfl ?_
    conv=>whnf
    repeat' ((first|refine nI ?_|refine aI ?_|refine tI ?_|refine fI ?_|fail);conv=>whnf)
    refine dI ?_
    conv=>whnf
    repeat' ((first|refine nI ?_|refine aI ?_|refine tI ?_|refine fI ?_|fail);conv=>whnf)
    refine dI ?_
    conv=>whnf
    repeat' ((first|refine nI ?_|refine aI ?_|refine tI ?_|refine fI ?_|fail);conv=>whnf)
    have e6:((bi A B x).set (x:Int).toNat 1)=bi A B (x+1):=by rw[tN,<-e5,hv']
    refine⟨x+1,?_,by omega,by dsimp only;omega⟩
    dsimp only
    rw[<-e6]
    exact aL.by_ (dS++[(8, .old 8),(11, .old 11),(221, .old 221)]) _ 400 rfl (aa) (aa)
   ·conv=>whnf
    have hv':br p.rules 4 6 state seg v=0:=by
     unfold br
     (repeat' split)<;>omega
    repeat' ((first|refine nI ?_|refine aI ?_|refine tI ?_|refine fI ?_|fail);conv=>whnf)
    refine dI ?_
    conv=>whnf
    repeat' ((first|refine nI ?_|refine aI ?_|refine tI ?_|refine fI ?_|fail);conv=>whnf)
    refine dI ?_
    conv=>whnf
    repeat' ((first|refine nI ?_|refine aI ?_|refine tI ?_|refine fI ?_|fail);conv=>whnf)
    have e6:(bi A B x)=bi A B (x+1):=by rw[<-e5,hv',e0]
    refine⟨x+1,?_,by omega,by dsimp only;omega⟩
    dsimp only
    rw[<-e6]
    exact aL.by_ (dS++[(8, .old 8),(11, .old 11),(221, .old 221)]) _ 400 rfl (aa) (aa)
  ·by_cases k3:v.kind=6
   ·have hi:=hinx k3
    by_cases k4:v.seg<=seg
    ·by_cases k5:(p.rules.getD v.idx.toNat ar).dst=state
     ·by_cases k6:(p.rules.getD v.idx.toNat ar).src=state
      ·conv=>whnf
       have hv':br p.rules 4 6 state seg v=-1:=by
        unfold br
        (repeat' split)<;>omega
       repeat' ((first|refine nI ?_|refine aI ?_|refine tI ?_|refine fI ?_|fail);conv=>whnf)
       refine dI ?_
       conv=>whnf
       repeat' ((first|refine nI ?_|refine aI ?_|refine tI ?_|refine fI ?_|fail);conv=>whnf)
       refine ap 1 rfl ?_
       conv=>whnf
       repeat' ((first|refine nI ?_|refine aI ?_|refine tI ?_|refine fI ?_|fail);conv=>whnf)
       refine dI ?_
       conv=>whnf
       repeat' ((first|refine nI ?_|refine aI ?_|refine tI ?_|refine fI ?_|fail);conv=>whnf)
       refine ap (-1) rfl ?_
       conv=>whnf
       repeat' ((first|refine nI ?_|refine aI ?_|refine tI ?_|refine fI ?_|fail);conv=>whnf)
       have e6:(((bi A B x).set (x:Int).toNat 1).set (x:Int).toNat (-1))=bi A B (x+1):=by rw[tN,List.set_set,<-e5,hv']
       refine⟨x+1,?_,by omega,by dsimp only;omega⟩
       dsimp only
       rw[<-e6]
       exact aL.by_ (dS++[(8, .old 8),(11, .old 11),(221, .old 221)]) _ 400 rfl (aa) (aa)
      ·conv=>whnf
       have hv':br p.rules 4 6 state seg v=1:=by
        unfold br
        (repeat' split)<;>omega
       repeat' ((first|refine nI ?_|refine aI ?_|refine tI ?_|refine fI ?_|fail);conv=>whnf)
       refine dI ?_
       conv=>whnf
       repeat' ((first|refine nI ?_|refine aI ?_|refine tI ?_|refine fI ?_|fail);conv=>whnf)
       refine ap 1 rfl ?_
       conv=>whnf
       repeat' ((first|refine nI ?_|refine aI ?_|refine tI ?_|refine fI ?_|fail);conv=>whnf)
       refine dI ?_
       conv=>whnf
       repeat' ((first|refine nI ?_|refine aI ?_|refine tI ?_|refine fI ?_|fail);conv=>whnf)
       have e6:((bi A B x).set (x:Int).toNat 1)=bi A B (x+1):=by rw[tN,<-e5,hv']
       refine⟨x+1,?_,by omega,by dsimp only;omega⟩
       dsimp only
       rw[<-e6]
       exact aL.by_ (dS++[(8, .old 8),(11, .old 11),(221, .old 221)]) _ 400 rfl (aa) (aa)
     ·by_cases k6:(p.rules.getD v.idx.toNat ar).src=state
      ·conv=>whnf
       have hv':br p.rules 4 6 state seg v=-1:=by
        unfold br
        (repeat' split)<;>omega
       repeat' ((first|refine nI ?_|refine aI ?_|refine tI ?_|refine fI ?_|fail);conv=>whnf)
       refine dI ?_
       conv=>whnf
       repeat' ((first|refine nI ?_|refine aI ?_|refine tI ?_|refine fI ?_|fail);conv=>whnf)
       refine dI ?_
       conv=>whnf
       repeat' ((first|refine nI ?_|refine aI ?_|refine tI ?_|refine fI ?_|fail);conv=>whnf)
       refine ap (-1) rfl ?_
       conv=>whnf
       repeat' ((first|refine nI ?_|refine aI ?_|refine tI ?_|refine fI ?_|fail);conv=>whnf)
       have e6:((bi A B x).set (x:Int).toNat (-1))=bi A B (x+1):=by rw[tN,<-e5,hv']
       refine⟨x+1,?_,by omega,by dsimp only;omega⟩
       dsimp only
       rw[<-e6]
       exact aL.by_ (dS++[(8, .old 8),(11, .old 11),(221, .old 221)]) _ 400 rfl (aa) (aa)
      ·conv=>whnf
       have hv':br p.rules 4 6 state seg v=0:=by
        unfold br
        (repeat' split)<;>omega
       repeat' ((first|refine nI ?_|refine aI ?_|refine tI ?_|refine fI ?_|fail);conv=>whnf)
       refine dI ?_
       conv=>whnf
       repeat' ((first|refine nI ?_|refine aI ?_|refine tI ?_|refine fI ?_|fail);conv=>whnf)
       refine dI ?_
       conv=>whnf
       repeat' ((first|refine nI ?_|refine aI ?_|refine tI ?_|refine fI ?_|fail);conv=>whnf)
       have e6:(bi A B x)=bi A B (x+1):=by rw[<-e5,hv',e0]
       refine⟨x+1,?_,by omega,by dsimp only;omega⟩
       dsimp only
       rw[<-e6]
       exact aL.by_ (dS++[(8, .old 8),(11, .old 11),(221, .old 221)]) _ 400 rfl (aa) (aa)
    ·conv=>whnf
     have hv':br p.rules 4 6 state seg v=0:=by
      unfold br
      (repeat' split)<;>omega
     repeat' ((first|refine nI ?_|refine aI ?_|refine tI ?_|refine fI ?_|fail);conv=>whnf)
     refine dI ?_
     conv=>whnf
     repeat' ((first|refine nI ?_|refine aI ?_|refine tI ?_|refine fI ?_|fail);conv=>whnf)
     refine dI ?_
     conv=>whnf
     repeat' ((first|refine nI ?_|refine aI ?_|refine tI ?_|refine fI ?_|fail);conv=>whnf)
     have e6:(bi A B x)=bi A B (x+1):=by rw[<-e5,hv',e0]
     refine⟨x+1,?_,by omega,by dsimp only;omega⟩
     dsimp only
     rw[<-e6]
     exact aL.by_ (dS++[(8, .old 8),(11, .old 11),(221, .old 221)]) _ 400 rfl (aa) (aa)
   ·conv=>whnf
    have hv':br p.rules 4 6 state seg v=0:=by
     unfold br
     (repeat' split)<;>omega
    repeat' ((first|refine nI ?_|refine aI ?_|refine tI ?_|refine fI ?_|fail);conv=>whnf)
    refine dI ?_
    conv=>whnf
    repeat' ((first|refine nI ?_|refine aI ?_|refine tI ?_|refine fI ?_|fail);conv=>whnf)
    refine dI ?_
    conv=>whnf
    repeat' ((first|refine nI ?_|refine aI ?_|refine tI ?_|refine fI ?_|fail);conv=>whnf)
    have e6:(bi A B x)=bi A B (x+1):=by rw[<-e5,hv',e0]
    refine⟨x+1,?_,by omega,by dsimp only;omega⟩
    dsimp only
    rw[<-e6]
    exact aL.by_ (dS++[(8, .old 8),(11, .old 11),(221, .old 221)]) _ 400 rfl (aa) (aa)
 ·obtain rfl:x=vars.length:=by omega
  rw[show vars.length=A.length from hA.symm,jl hl]
  conv=>whnf
  exact⟨rfl,(aa)⟩
theorem Gh (p:au) (vars:List Vb) (rows:List cK) (hv:vars.length<=1000000) (hrl:p.rules.length<=1000) (hsd:∀i,i<p.rules.length->(p.rules.getD i ar).send.length<=60) (hin:∀x,x<vars.length->(vars.getD x cm).kind=5->0<=(vars.getD x cm).idx/\(vars.getD x cm).idx<p.rules.length) (message:Int) (seg:Nat):
  ak Tryz.prog 185 [.ptr 200 0, .int .i64 message, .int .i64 (seg:Int), .bool false] (aj.ofL (cq p vars rows)) (fun u M=>u= .agg [.sl 0 an (vars.map (bn p.rules 5 message seg)), .int .i64 0]/\M=aj.ofL (cq p vars rows)):=by
 have hrow:=r4 p vars rows hv
 have hl:(vars.map zC).length=(vars.map (bn p.rules 5 message seg)).length:=by simp
 have hA:(vars.map zC).length=vars.length:=by simp
 have hg:∀x:Nat,x<vars.length->(vars.map zC).getD x 0=0:=fun x hx=>by rw[b9 _ hx];rfl
 have hB:∀x:Nat,x<vars.length->(vars.map (bn p.rules 5 message seg)).getD x 0=bn p.rules 5 message seg (vars.getD x cm):=fun x hx=>by rw[b9 _ hx]
 generalize vars.map (bn p.rules 5 message seg)=B at*
 generalize vars.map zC=A at*
 refine ak.idn rfl (aa) ?_
 refine ak.introL ac ag (cq p vars rows) Tryz.func185 rfl (by decide) ?_
 conv=>whnf
 refine ak.call dS (cq p vars rows) 400 rfl (aa) (aa) hrow ?_
 rintro u M' ⟨rfl,rfl⟩
 refine⟨dS++[(221, .old 221)],cq p vars rows++[(221, .row 3 0 an A)], .agg [.row 221 vars.length 1, .int .i64 0],rfl,(aa),(aa),?_⟩
 conv=>whnf
 refine aH.loopF ac ag (fun x:Nat=>x<=vars.length) (fun x=>[(11, .int .i64 (x:Int))]) (fun x=>cq p vars rows++[(8, .box 154 [.nilsl, .int .i64 0]),(10, .box 154 [.row 221 vars.length 1, .int .i64 0]),(221, .row 3 0 an (bi A B x))]) (fun x=>vars.length-x) 0 (Nat.zero_le _) ?_;conv=>whnf
 refine⟨by rw[gR];exact aL.by_ (dS++[(8, .old 8),(10, .old 10),(221, .old 221)]) _ 400 rfl (aa) (aa),?_⟩
 rintro x hx
 conv=>whnf
 refine ah ?_ ?_<;>(intro h1;conv=>whnf)
 ·have hxl:x<vars.length:=by omega
  have e5:=jm hl (show x<A.length by omega)
  have e4:=ib hl (show x<A.length by omega)
  have e6:=kP hl x
  have e0:=mR (L:=bi A B x) (x:=x) (by rw[e4];exact hg x hxl) (by omega)
  have hinx:=hin x hxl
  rw[hB x hxl] at e5
  clear e4 hB hg hin
  refine nI ?_
  rw[tN]
  generalize vars.getD x cm=v at*
  by_cases k3:v.kind=5
  ·by_cases k4:v.seg<seg
   ·conv=>whnf
    have hi:=hinx k3
    have hsd1:=hsd v.idx.toNat (by omega)
    first|refine dI ?_|refine mm (by decide+kernel) ?_
    conv=>whnf
    repeat' ((first|refine nI ?_|refine aI ?_|refine tI ?_|refine fI ?_|fail);conv=>whnf)
    refine dD (zS (p.rules.getD v.idx.toNat ar).send message (by omega)) (fun _=>?_) (fun _=>?_)<;>(conv=>whnf)
    ·rename_i hm
     have hv':bn p.rules 5 message seg v=1:=by
      unfold bn
      rw[if_pos ⟨k3,k4,hm⟩]
     repeat' ((first|refine nI ?_|refine aI ?_|refine tI ?_|refine fI ?_|fail);conv=>whnf)
     refine ap 1 rfl ?_
     conv=>whnf
     repeat' ((first|refine nI ?_|refine aI ?_|refine tI ?_|refine fI ?_|fail);conv=>whnf)
     have e6:((bi A B x).set (x:Int).toNat 1)=bi A B (x+1):=by rw[tN,<-e5,hv']
     refine⟨x+1,?_,by omega,by dsimp only;omega⟩
     dsimp only
     rw[<-e6]
     exact aL.by_ (dS++[(8, .old 8),(10, .old 10),(221, .old 221)]) _ 400 rfl (aa) (aa)
    ·rename_i hm
     have hv':bn p.rules 5 message seg v=0:=by
      unfold bn
      rw[if_neg (fun h=>hm h.2.2)]
     repeat' ((first|refine nI ?_|refine aI ?_|refine tI ?_|refine fI ?_|fail);conv=>whnf)
     have e6:(bi A B x)=bi A B (x+1):=by rw[<-e5,hv',e0]
     refine⟨x+1,?_,by omega,by dsimp only;omega⟩
     dsimp only
     rw[<-e6]
     exact aL.by_ (dS++[(8, .old 8),(10, .old 10),(221, .old 221)]) _ 400 rfl (aa) (aa)
   ·conv=>whnf
    have hv':bn p.rules 5 message seg v=0:=by
     unfold bn
     rw[if_neg (fun h=>by omega)]
    first|refine dI ?_|refine mm (by decide+kernel) ?_
    conv=>whnf
    repeat' ((first|refine nI ?_|refine aI ?_|refine tI ?_|refine fI ?_|fail);conv=>whnf)
    have e6:(bi A B x)=bi A B (x+1):=by rw[<-e5,hv',e0]
    refine⟨x+1,?_,by omega,by dsimp only;omega⟩
    dsimp only
    rw[<-e6]
    exact aL.by_ (dS++[(8, .old 8),(10, .old 10),(221, .old 221)]) _ 400 rfl (aa) (aa)
  ·conv=>whnf
   have hv':bn p.rules 5 message seg v=0:=by
    unfold bn
    rw[if_neg (fun h=>by omega)]
   first|refine dI ?_|refine mm (by decide+kernel) ?_
   conv=>whnf
   repeat' ((first|refine nI ?_|refine aI ?_|refine tI ?_|refine fI ?_|fail);conv=>whnf)
   have e6:(bi A B x)=bi A B (x+1):=by rw[<-e5,hv',e0]
   refine⟨x+1,?_,by omega,by dsimp only;omega⟩
   dsimp only
   rw[<-e6]
   exact aL.by_ (dS++[(8, .old 8),(10, .old 10),(221, .old 221)]) _ 400 rfl (aa) (aa)
 ·obtain rfl:x=vars.length:=by omega
  rw[show vars.length=A.length from hA.symm,jl hl]
  conv=>whnf
  exact⟨rfl,(aa)⟩
theorem Gi (p:au) (vars:List Vb) (rows:List cK) (hv:vars.length<=1000000) (hrl:p.rules.length<=1000) (hsd:∀i,i<p.rules.length->(p.rules.getD i ar).send.length<=60) (hin:∀x,x<vars.length->(vars.getD x cm).kind=6->0<=(vars.getD x cm).idx/\(vars.getD x cm).idx<p.rules.length) (message:Int) (seg:Nat):
  ak Tryz.prog 185 [.ptr 200 0, .int .i64 message, .int .i64 (seg:Int), .bool true] (aj.ofL (cq p vars rows)) (fun u M=>u= .agg [.sl 0 an (vars.map (bn p.rules 6 message seg)), .int .i64 0]/\M=aj.ofL (cq p vars rows)):=by
 have hrow:=r4 p vars rows hv
 have hl:(vars.map zC).length=(vars.map (bn p.rules 6 message seg)).length:=by simp
 have hA:(vars.map zC).length=vars.length:=by simp
 have hg:∀x:Nat,x<vars.length->(vars.map zC).getD x 0=0:=fun x hx=>by rw[b9 _ hx];rfl
 have hB:∀x:Nat,x<vars.length->(vars.map (bn p.rules 6 message seg)).getD x 0=bn p.rules 6 message seg (vars.getD x cm):=fun x hx=>by rw[b9 _ hx]
 generalize vars.map (bn p.rules 6 message seg)=B at*
 generalize vars.map zC=A at*
 refine ak.idn rfl (aa) ?_
 refine ak.introL ac ag (cq p vars rows) Tryz.func185 rfl (by decide) ?_
 conv=>whnf
 refine ak.call dS (cq p vars rows) 400 rfl (aa) (aa) hrow ?_
 rintro u M' ⟨rfl,rfl⟩
 refine⟨dS++[(221, .old 221)],cq p vars rows++[(221, .row 3 0 an A)], .agg [.row 221 vars.length 1, .int .i64 0],rfl,(aa),(aa),?_⟩
 conv=>whnf
 refine aH.loopF ac ag (fun x:Nat=>x<=vars.length) (fun x=>[(11, .int .i64 (x:Int))]) (fun x=>cq p vars rows++[(8, .box 154 [.nilsl, .int .i64 0]),(10, .box 154 [.row 221 vars.length 1, .int .i64 0]),(221, .row 3 0 an (bi A B x))]) (fun x=>vars.length-x) 0 (Nat.zero_le _) ?_;conv=>whnf
 refine⟨by rw[gR];exact aL.by_ (dS++[(8, .old 8),(10, .old 10),(221, .old 221)]) _ 400 rfl (aa) (aa),?_⟩
 rintro x hx
 conv=>whnf
 refine ah ?_ ?_<;>(intro h1;conv=>whnf)
 ·have hxl:x<vars.length:=by omega
  have e5:=jm hl (show x<A.length by omega)
  have e4:=ib hl (show x<A.length by omega)
  have e6:=kP hl x
  have e0:=mR (L:=bi A B x) (x:=x) (by rw[e4];exact hg x hxl) (by omega)
  have hinx:=hin x hxl
  rw[hB x hxl] at e5
  clear e4 hB hg hin
  refine nI ?_
  rw[tN]
  generalize vars.getD x cm=v at*
  by_cases k3:v.kind=6
  ·by_cases k4:v.seg<seg
   ·conv=>whnf
    have hi:=hinx k3
    have hsd1:=hsd v.idx.toNat (by omega)
    first|refine dI ?_|refine mm (by decide+kernel) ?_
    conv=>whnf
    repeat' ((first|refine nI ?_|refine aI ?_|refine tI ?_|refine fI ?_|fail);conv=>whnf)
    refine dD (zS (p.rules.getD v.idx.toNat ar).send message (by omega)) (fun _=>?_) (fun _=>?_)<;>(conv=>whnf)
    ·rename_i hm
     have hv':bn p.rules 6 message seg v=1:=by
      unfold bn
      rw[if_pos ⟨k3,k4,hm⟩]
     repeat' ((first|refine nI ?_|refine aI ?_|refine tI ?_|refine fI ?_|fail);conv=>whnf)
     refine ap 1 rfl ?_
     conv=>whnf
     repeat' ((first|refine nI ?_|refine aI ?_|refine tI ?_|refine fI ?_|fail);conv=>whnf)
     have e6:((bi A B x).set (x:Int).toNat 1)=bi A B (x+1):=by rw[tN,<-e5,hv']
     refine⟨x+1,?_,by omega,by dsimp only;omega⟩
     dsimp only
     rw[<-e6]
     exact aL.by_ (dS++[(8, .old 8),(10, .old 10),(221, .old 221)]) _ 400 rfl (aa) (aa)
    ·rename_i hm
     have hv':bn p.rules 6 message seg v=0:=by
      unfold bn
      rw[if_neg (fun h=>hm h.2.2)]
     repeat' ((first|refine nI ?_|refine aI ?_|refine tI ?_|refine fI ?_|fail);conv=>whnf)
     have e6:(bi A B x)=bi A B (x+1):=by rw[<-e5,hv',e0]
     refine⟨x+1,?_,by omega,by dsimp only;omega⟩
     dsimp only
     rw[<-e6]
     exact aL.by_ (dS++[(8, .old 8),(10, .old 10),(221, .old 221)]) _ 400 rfl (aa) (aa)
   ·conv=>whnf
    have hv':bn p.rules 6 message seg v=0:=by
     unfold bn
     rw[if_neg (fun h=>by omega)]
    first|refine dI ?_|refine mm (by decide+kernel) ?_
    conv=>whnf
    repeat' ((first|refine nI ?_|refine aI ?_|refine tI ?_|refine fI ?_|fail);conv=>whnf)
    have e6:(bi A B x)=bi A B (x+1):=by rw[<-e5,hv',e0]
    refine⟨x+1,?_,by omega,by dsimp only;omega⟩
    dsimp only
    rw[<-e6]
    exact aL.by_ (dS++[(8, .old 8),(10, .old 10),(221, .old 221)]) _ 400 rfl (aa) (aa)
  ·conv=>whnf
   have hv':bn p.rules 6 message seg v=0:=by
    unfold bn
    rw[if_neg (fun h=>by omega)]
   first|refine dI ?_|refine mm (by decide+kernel) ?_
   conv=>whnf
   repeat' ((first|refine nI ?_|refine aI ?_|refine tI ?_|refine fI ?_|fail);conv=>whnf)
   have e6:(bi A B x)=bi A B (x+1):=by rw[<-e5,hv',e0]
   refine⟨x+1,?_,by omega,by dsimp only;omega⟩
   dsimp only
   rw[<-e6]
   exact aL.by_ (dS++[(8, .old 8),(10, .old 10),(221, .old 221)]) _ 400 rfl (aa) (aa)
 ·obtain rfl:x=vars.length:=by omega
  rw[show vars.length=A.length from hA.symm,jl hl]
  conv=>whnf
  exact⟨rfl,(aa)⟩
theorem mS (vars:List Vb) (a b:Co) (c d k e:Int) (he:c+k*d=e) (hl:vars.length<=1000000) (hk:-100<=k/\k<=100) (ha:iY 1000000 a) (hb:iY 10000 b) (hc:-1000000<=c/\c<=1000000) (hd:-10000<=d/\d<=10000):
  ab Tryz.prog 179 [.agg [.sl 0 an (vars.map a), .int .i64 c], .agg [.sl 0 an (vars.map b), .int .i64 d], .int .i64 k] (fun u=>u= .agg [.sl 0 an (vars.map (ba a k b)), .int .i64 e]):=by
 subst he
 exact Ky vars a b c d k hl hk ha hb hc hd
theorem lV (rs:List bp) (fire message:Int) (seg:Nat) (v:Vb):-2<=bn rs fire message seg v/\bn rs fire message seg v<=2:=by
 unfold bn
 split<;>omega
theorem xu (rs:List bp) (start fire state:Int) (seg:Nat) (v:Vb):-2<=br rs start fire state seg v/\br rs start fire state seg v<=2:=by
 unfold br
 (repeat' split)<;>omega
theorem Dj (kind:Int) (v:Vb):-2<=jU kind v/\jU kind v<=2:=by
 unfold jU
 split<;>omega
theorem nL {l:g7} (h:c6 l):iY 100 (bf l):=fun v=>by
 obtain⟨h1,h2,h3,h4⟩:=h
 unfold bO at h1 h2 h3 h4
 unfold bf
 (repeat' split)<;>omega
def lF:g7:=⟨0,0,0,1⟩
def j0 (p:au) (g:eg) (j:Nat):Co:=
 ba (if gq p then ba (ba zC g.coef (bn p.rules 5 g.message j)) g.coef (bn p.rules 6 g.message j)
  else if p.fault=3 then ba (ba zC g.coef (bn p.rules 5 g.message j)) g.coef (bf lF)
  else ba zC g.coef (bn p.rules 5 g.message j)) (-1) (bf g.bound)
def Fz (p:au) (vars:List Vb):Prop:=∀x,x<vars.length->((vars.getD x cm).kind=5\/(vars.getD x cm).kind=6)->0<=(vars.getD x cm).idx/\(vars.getD x cm).idx<p.rules.length
theorem qm {p:au} {q:aV} {sch:List Int} (h:aZ p q=0):Fz p (ao p q sch):=fun x hx hk=>by
 have:=cN h (aP (l:=ao p q sch) cm hx)
 generalize (ao p q sch).getD x cm=v at*
 rcases this with (rfl|rfl|rfl)|h|h
 ·dsimp only at hk;omega
 ·dsimp only at hk;omega
 ·dsimp only at hk;omega
 ·omega
 ·exact h.2.2
theorem JB (p:au) (q:aV) (sch:List Int) (rows:List cK) (hq:aZ p q=0) (hs:cM (aA p.rules).length sch) (g:eg) (hgc:1<=g.coef/\g.coef<=100) (hgb:c6 g.bound) (j:Nat):
  ak Tryz.prog 182 [.ptr 200 0, .agg (bT g), .int .i64 (j:Int)] (aj.ofL (cq p (ao p q sch) rows)) (fun u M=>u= .agg [.sl 0 an ((ao p q sch).map (j0 p g j)), .int .i64 (-g.bound.c)]/\M=aj.ofL (cq p (ao p q sch) rows)):=by
 have hV:=(aQ hq).vld
 have wl:=(aK hV).len
 have hv:=dM hq hs
 have hrl:p.rules.length<=1000:=by omega
 have hsd:=mM hV
 have hru:=qm (sch:=sch) hq
 have hin5:=fun x hx hk=>hru x hx (.inl hk)
 have hin6:=fun x hx hk=>hru x hx (.inr hk)
 have hrow:=yD p (ao p q sch) rows (by omega)
 have hs5:=Gh p (ao p q sch) rows (by omega) hrl hsd hin5 g.message j
 have hs6:=Gi p (ao p q sch) rows (by omega) hrl hsd hin6 g.message j
 have hlF:=yE p q sch rows hq hs lF
 have hlB:=yE p q sch rows hq hs g.bound
 have hbc:=hgb.1
 unfold bO at hbc
 have b5:iY 10000 (bn p.rules 5 g.message j):=fun v=>by have:=lV p.rules 5 g.message j v;omega
 have b6:iY 10000 (bn p.rules 6 g.message j):=fun v=>by have:=lV p.rules 6 g.message j v;omega
 have bF:iY 10000 (bf lF):=fun v=>by unfold bf lF;dsimp only;(repeat' split)<;>omega
 have bB:iY 10000 (bf g.bound):=aC (nL hgb) (by omega)
 have kf:bO g.coef:=by unfold bO;omega
 have c1:iY 1000 (ba zC g.coef (bn p.rules 5 g.message j)):=aC (f5 (jV (X:=0) (by omega)) kf (lV _ _ _ _)) (by omega)
 have c2:iY 2000 (ba (ba zC g.coef (bn p.rules 5 g.message j)) g.coef (bn p.rules 6 g.message j)):=aC (f5 c1 kf (lV _ _ _ _)) (by omega)
 have c3:iY 2000 (ba (ba zC g.coef (bn p.rules 5 g.message j)) g.coef (bf lF)):=aC (f5 c1 kf fun v=>by unfold bf lF;dsimp only;(repeat' split)<;>omega) (by omega)
 have h1:=mS (ao p q sch) zC (bn p.rules 5 g.message j) 0 0 g.coef 0 (by omega) (by omega) (by omega) (jV (by omega)) b5 (by omega) (by omega)
 have h2:=mS (ao p q sch) _ (bn p.rules 6 g.message j) 0 0 g.coef 0 (by omega) (by omega) (by omega) (aC c1 (by omega)) b6 (by omega) (by omega)
 have h3:=mS (ao p q sch) _ (bf lF) 0 0 g.coef 0 (by omega) (by omega) (by omega) (aC c1 (by omega)) bF (by omega) (by omega)
 have e1:=mS (ao p q sch) _ (bf g.bound) 0 g.bound.c (-1) (-g.bound.c) (by omega) (by omega) (by omega) (aC c1 (by omega)) bB (by omega) (by omega)
 have e2:=mS (ao p q sch) _ (bf g.bound) 0 g.bound.c (-1) (-g.bound.c) (by omega) (by omega) (by omega) (aC c2 (by omega)) bB (by omega) (by omega)
 have e3:=mS (ao p q sch) _ (bf g.bound) 0 g.bound.c (-1) (-g.bound.c) (by omega) (by omega) (by omega) (aC c3 (by omega)) bB (by omega) (by omega)
 have hD1:gq p->j0 p g j=ba (ba (ba zC g.coef (bn p.rules 5 g.message j)) g.coef (bn p.rules 6 g.message j)) (-1) (bf g.bound):=fun h=>by unfold j0;rw[if_pos h]
 have hD2:¬gq p->p.fault=3->j0 p g j=ba (ba (ba zC g.coef (bn p.rules 5 g.message j)) g.coef (bf lF)) (-1) (bf g.bound):=fun h h'=>by unfold j0;rw[if_neg h,if_pos h']
 have hD3:¬gq p->¬p.fault=3->j0 p g j=ba (ba zC g.coef (bn p.rules 5 g.message j)) (-1) (bf g.bound):=fun h h'=>by unfold j0;rw[if_neg h,if_neg h']
 have hw3:gq p->¬p.fault=3:=fun h=>by unfold gq at h;omega
 clear b5 b6 bF bB c1 c2 c3 hin5 hin6 hru hsd
 rw[show lF.c=0 from rfl] at hlF
 generalize ba (ba (ba zC g.coef (bn p.rules 5 g.message j)) g.coef (bn p.rules 6 g.message j)) (-1) (bf g.bound)=E2 at*
 generalize ba (ba (ba zC g.coef (bn p.rules 5 g.message j)) g.coef (bf lF)) (-1) (bf g.bound)=E3 at*
 generalize ba (ba zC g.coef (bn p.rules 5 g.message j)) (-1) (bf g.bound)=E1 at*
 generalize ba (ba zC g.coef (bn p.rules 5 g.message j)) g.coef (bn p.rules 6 g.message j)=C2 at*
 generalize ba (ba zC g.coef (bn p.rules 5 g.message j)) g.coef (bf lF)=C3 at*
 generalize ba zC g.coef (bn p.rules 5 g.message j)=C1 at*
 generalize bn p.rules 5 g.message j=S5 at*
 generalize bn p.rules 6 g.message j=S6 at*
 generalize bf g.bound=LB at*
 generalize bf lF=LF at*
 generalize j0 p g j=GD at*
 generalize ao p q sch=vars at*
 refine ak.idn rfl (aa) ?_
 refine ak.introL ac ag (cq p vars rows) Tryz.func182 rfl (by decide) ?_
 simp only[eV]
 rw[show Tryz.f182.ntmps=51 from rfl]
 simp only[cy]
 simp only[dv]
 rw[bu]
 simp only[gv,aJ,List.map_cons,List.map_nil,bc]
 conv=>whnf
 refine al rfl ?_
 conv=>whnf
 apply cA
 case k=>
  intro o1 o2 o3 o4 o5 o6
  refine em [0,2,3,4,5,7,8] (by decide+kernel) ?_
  conv=>whnf
  repeat' first
   |exact True.intro
   |(refine And.intro ?_ ?_<;>conv=>whnf)
   |(refine ak.call dS (cq p vars rows) 400 rfl (aa) (aa) hrow ?_;rintro u M' ⟨rfl,rfl⟩;refine⟨dS,cq p vars rows, .agg [.sl 0 an (vars.map zC), .int .i64 0],rfl,(aa),(aa),?_⟩;conv=>whnf)
   |(refine ak.call dS (cq p vars rows) 400 rfl (aa) (aa) hs5 ?_;rintro u M' ⟨rfl,rfl⟩;refine⟨dS,cq p vars rows, .agg [.sl 0 an (vars.map S5), .int .i64 0],rfl,(aa),(aa),?_⟩;conv=>whnf)
   |(refine oP (h1) ?_;conv=>whnf)
   |with_reducible exact o1
   |with_reducible exact o2
   |with_reducible exact o3
   |with_reducible exact o4
   |with_reducible exact o5
   |with_reducible exact o6
   |fail
 all_goals try first
  |exact True.intro
  |exact True
 all_goals
  refine dC (d7 p) (fun _=>?_) (fun _=>?_)<;>(conv=>whnf)
  ·rename_i hw
   repeat' ((first|refine nI ?_|refine aI ?_|refine tI ?_|refine fI ?_|fail);conv=>whnf)
   apply cA
   case k=>
    intro o1 o2 o3 o4 o5 o6
    refine em [1,2,3,4,6,7] (by decide+kernel) ?_
    conv=>whnf
    repeat' first
     |exact True.intro
     |(refine And.intro ?_ ?_<;>conv=>whnf)
     |(refine ak.call dS (cq p vars rows) 400 rfl (aa) (aa) hs6 ?_;rintro u M' ⟨rfl,rfl⟩;refine⟨dS,cq p vars rows, .agg [.sl 0 an (vars.map S6), .int .i64 0],rfl,(aa),(aa),?_⟩;conv=>whnf)
     |(refine oP (h2) ?_;conv=>whnf)
     |with_reducible exact o1
     |with_reducible exact o2
     |with_reducible exact o3
     |with_reducible exact o4
     |with_reducible exact o5
     |with_reducible exact o6
     |fail
   all_goals try first
    |exact True.intro
    |exact True
   all_goals
    refine fI ?_ (hw3 hw)
    conv=>whnf
    rw[hD1 hw]
    refine em [1,2,3] (by decide+kernel) ?_
    conv=>whnf
    repeat' first
     |exact True.intro
     |(refine And.intro ?_ ?_<;>conv=>whnf)
     |(refine ak.call dS (cq p vars rows) 400 rfl (aa) (aa) hlB ?_;rintro u M' ⟨rfl,rfl⟩;refine⟨dS,cq p vars rows, .agg [.sl 0 an (vars.map LB), .int .i64 g.bound.c],rfl,(aa),(aa),?_⟩;conv=>whnf)
     |(refine oP (e2) ?_;conv=>whnf)
     |exact⟨rfl,(aa)⟩
     |exact rfl
     |fail
  ·rename_i hw
   refine ah ?_ ?_<;>(intro hf;conv=>whnf)
   ·apply cA
    case k=>
     intro o1 o2 o3 o4 o5 o6
     refine em [1,2,4,5] (by decide+kernel) ?_
     conv=>whnf
     repeat' first
      |exact True.intro
      |(refine And.intro ?_ ?_<;>conv=>whnf)
      |(refine ak.call dS (cq p vars rows) 400 rfl (aa) (aa) hlF ?_;rintro u M' ⟨rfl,rfl⟩;refine⟨dS,cq p vars rows, .agg [.sl 0 an (vars.map LF), .int .i64 0],rfl,(aa),(aa),?_⟩;conv=>whnf)
      |(refine oP (h3) ?_;conv=>whnf)
      |with_reducible exact o1
      |with_reducible exact o2
      |with_reducible exact o3
      |with_reducible exact o4
      |with_reducible exact o5
      |with_reducible exact o6
      |fail
    all_goals try first
     |exact True.intro
     |exact True
    all_goals
     rw[hD2 hw hf]
     refine em [1,2,3] (by decide+kernel) ?_
     conv=>whnf
     repeat' first
      |exact True.intro
      |(refine And.intro ?_ ?_<;>conv=>whnf)
      |(refine ak.call dS (cq p vars rows) 400 rfl (aa) (aa) hlB ?_;rintro u M' ⟨rfl,rfl⟩;refine⟨dS,cq p vars rows, .agg [.sl 0 an (vars.map LB), .int .i64 g.bound.c],rfl,(aa),(aa),?_⟩;conv=>whnf)
      |(refine oP (e3) ?_;conv=>whnf)
      |exact⟨rfl,(aa)⟩
      |exact rfl
      |fail
   ·rw[hD3 hw hf]
    refine em [1,2,3] (by decide+kernel) ?_
    conv=>whnf
    repeat' first
     |exact True.intro
     |(refine And.intro ?_ ?_<;>conv=>whnf)
     |(refine ak.call dS (cq p vars rows) 400 rfl (aa) (aa) hlB ?_;rintro u M' ⟨rfl,rfl⟩;refine⟨dS,cq p vars rows, .agg [.sl 0 an (vars.map LB), .int .i64 g.bound.c],rfl,(aa),(aa),?_⟩;conv=>whnf)
     |(refine oP (e1) ?_;conv=>whnf)
     |exact⟨rfl,(aa)⟩
     |exact rfl
     |fail
def nM (p:au) (seg:Nat) (states:List Int):Co:=states.foldl (fun c x=>ba c 1 (br p.rules 3 5 x seg)) zC
theorem Gj (p:au) (vars:List Vb) (rows:List cK) (hv:vars.length<=1000000) (hrl:p.rules.length<=1000) (hru:Fz p vars) (seg:Nat) (states:List Int) (hsl:states.length<=1000) (less:Int) (hls:0<=less/\less<=1000):
  ak Tryz.prog 184 [.ptr 200 0, .int .i64 (seg:Int), .sl 0 an states, .int .i64 less] (aj.ofL (cq p vars rows)) (fun u M=>u= .agg [.sl 0 an (vars.map (nM p seg states)), .int .i64 (-less)]/\M=aj.ofL (cq p vars rows)):=by
 have hin5:=fun x hx hk=>hru x hx (.inl hk)
 have hrow:=yD p vars rows hv
 obtain⟨F,hF⟩:∃F:Nat->Co,F=fun x=>(states.take x).foldl (fun c x=>ba c 1 (br p.rules 3 5 x seg)) zC:=⟨_,rfl⟩
 have hF0:F 0=zC:=by rw[hF];rfl
 have hFn:∀x,x<states.length->F (x+1)=ba (F x) 1 (br p.rules 3 5 (states.getD (x:Int).toNat 0) seg):=fun x hx=>by
  rw[hF,tN]
  dsimp only
  rw[List.take_succ_eq_append_getElem hx,List.foldl_append,ay 0 hx]
  rfl
 have hFb:∀x,x<=states.length->iY (200*x) (F x):=by
  intro x
  induction x with
  |zero=>intro _;rw[hF0];exact jV (by omega)
  |succ x ih=>
   intro hx
   rw[hFn x (by omega)]
   exact aC (f5 (ih (by omega)) (by unfold bO;omega) (xu _ _ _ _ _)) (by omega)
 have hFe:nM p seg states=F states.length:=by rw[hF];dsimp only;rw[List.take_length];rfl
 have ha:=fun x:Nat=>Dh p vars rows hv hrl hin5 seg (states.getD (x:Int).toNat 0)
 have hadd:∀x,x<states.length->ab Tryz.prog 179 [.agg [.sl 0 an (vars.map (F x)), .int .i64 0], .agg [.sl 0 an (vars.map (br p.rules 3 5 (states.getD (x:Int).toNat 0) seg)), .int .i64 0], .int .i64 1] (fun u=>u= .agg [.sl 0 an (vars.map (F (x+1))), .int .i64 0]):=fun x hx=>by
  rw[hFn x hx]
  exact mS vars _ _ 0 0 1 0 (by omega) hv (by omega) (aC (hFb x (by omega)) (by omega)) (fun v=>by have:=xu p.rules 3 5 (states.getD (x:Int).toNat 0) seg v;omega) (by omega) (by omega)
 rw[hFe,show -less=0-less by omega]
 rw[<-hF0] at hrow
 clear hF hFn hFb hFe hF0
 refine ak.idn rfl (aa) ?_
 refine ak.introL ac ag (cq p vars rows) Tryz.func184 rfl (by decide) ?_
 conv=>whnf
 refine ak.call dS (cq p vars rows) 400 rfl (aa) (aa) hrow ?_
 rintro u M' ⟨rfl,rfl⟩
 refine⟨dS,cq p vars rows, .agg [.sl 0 an (vars.map (F 0)), .int .i64 0],rfl,(aa),(aa),?_⟩
 conv=>whnf
 refine aH.loopF ac ag (fun x:Nat=>x<=states.length) (fun x=>[(12, .top),(10, .int .i64 (x:Int))]) (fun x=>cq p vars rows++[(8, .box 154 [.nilsl, .int .i64 0]),(9, .box 154 [.sl 0 an (vars.map (F x)), .int .i64 0])]) (fun x=>states.length-x) 0 (Nat.zero_le _) ?_;conv=>whnf
 refine⟨aL.by_ (dS++[(8, .old 8),(9, .old 9)]) _ 400 rfl (aa) (aa),?_⟩
 rintro x hx
 conv=>whnf
 refine ah ?_ ?_<;>(intro h1;conv=>whnf)
 ·have hxl:x<states.length:=by omega
  have ha1:=ha x
  have hadd1:=hadd x hxl
  generalize br p.rules 3 5 (states.getD (x:Int).toNat 0) seg=AF at*
  apply cA
  case k=>
   intro o1 o2 o3 o4 o5 o6
   refine em [1,2,3,4,6] (by decide+kernel) ?_
   conv=>whnf
   repeat' first
    |exact True.intro
    |(refine And.intro ?_ ?_<;>conv=>whnf)
    |(refine ak.call dS (cq p vars rows) 400 rfl (aa) (aa) ha1 ?_;rintro u M' ⟨rfl,rfl⟩;refine⟨dS,cq p vars rows, .agg [.sl 0 an (vars.map AF), .int .i64 0],rfl,(aa),(aa),?_⟩;conv=>whnf)
    |(refine bI (by clear o1 o2 o3 o4 o5 o6;omega) ?_;conv=>whnf)
    |(refine oP (hadd1) ?_;conv=>whnf)
    |with_reducible exact o1
    |with_reducible exact o2
    |with_reducible exact o3
    |with_reducible exact o4
    |with_reducible exact o5
    |with_reducible exact o6
    |fail
  all_goals try first
   |exact True.intro
   |exact True
  all_goals
   repeat' ((first|refine nI ?_|refine aI ?_|refine tI ?_|refine fI ?_|fail);conv=>whnf)
   refine⟨x+1,?_,by omega,by dsimp only;omega⟩
   exact aL.by_ (dS++[(8, .old 8),(9, .old 9)]) _ 400 rfl (aa) (aa)
 ·obtain rfl:x=states.length:=by omega
  repeat' ((first|refine nI ?_|refine aI ?_|refine tI ?_|refine fI ?_|fail);conv=>whnf)
  exact⟨rfl,(aa)⟩
def FA:cT:=[(200, .old 200),(201, .old 201),(202, .old 201)]
def nN:cT:=[(200, .old 200),(201, .old 201),(202, .old 202)]
def nO:cT:=[(200, .old 200),(201, .old 202)]
def nQ:cT:=[(200, .old 200),(202, .old 201)]
abbrev v6 (lr:Nat) (p:au) (vars:List Vb) (rows:List cK):List (Nat×cn):=[(200, .box 168 (HP p vars lr rows.length)),(lr, .row 154 bz bE rows)]
abbrev tU (p:au) (vars:List Vb) (rows:List cK):List (Nat×cn):=[(200, .box 168 (HP p vars 202 rows.length)),(201, .dead),(202, .row 154 bz bE rows)]
def lk (kind:Int) (l:g7):Co:=ba (jU kind) (-1) (bf l)
def tz (kind:Int) (l:g7):Co:=ba zC (-1) (lk kind l)
def lS:g7:=⟨0,1,0,-1⟩
theorem JC:c6 lS:=⟨by unfold bO lS;dsimp only;omega,by unfold bO lS;dsimp only;omega,by unfold bO lS;dsimp only;omega,by unfold bO lS;dsimp only;omega⟩
theorem JD:c6 lF:=⟨by unfold bO lF;dsimp only;omega,by unfold bO lF;dsimp only;omega,by unfold bO lF;dsimp only;omega,by unfold bO lF;dsimp only;omega⟩
def qn (p:au):List Rw:=(fi p).map lP++[(lk 3 lS,0),(tz 3 lS,0)]++if gq p then[(lk 4 lF,0),(tz 4 lF,0)] else[]
theorem JE (p:au) (q:aV) (sch:List Int) (rows:List cK) (hq:aZ p q=0) (hs:cM (aA p.rules).length sch) (hr:rows.length<=1000):
  ak Tryz.prog 104 [.ptr 200 0] (aj.ofL (cq p (ao p q sch) rows)) (fun u M=>u= .tup []/\M=aj.ofL (tU p (ao p q sch) (rows++(qn p).map (aN (ao p q sch))))):=by
 have hV:=(aQ hq).vld
 have wl:=(aK hV).len
 have hv:=dM hq hs
 have hlin:=fun rows l=>yE p q sch rows hq hs l
 have hsta:=fun rows kind=>Jz p (ao p q sch) rows (by omega) kind
 have hrow:=fun rows=>yD p (ao p q sch) rows (by omega)
 have hpl:(fi p).length<=9:=by unfold fi;rw[List.length_append,List.length_append];split<;>simp<;>omega
 have bS:iY 100 (bf lS):=nL JC
 have bF:iY 100 (bf lF):=nL JD
 have sb:∀kind l,c6 l->iY 1000 (lk kind l):=fun kind l h v=>by
  have a:=nL h v
  have b:=Dj kind v
  unfold lk ba
  omega
 have as3:=mS (ao p q sch) (jU 3) (bf lS) 0 0 (-1) 0 (by omega) (by omega) (by omega) (fun v=>by have:=Dj 3 v;omega) (aC bS (by omega)) (by omega) (by omega)
 have as4:=mS (ao p q sch) (jU 4) (bf lF) 0 0 (-1) 0 (by omega) (by omega) (by omega) (fun v=>by have:=Dj 4 v;omega) (aC bF (by omega)) (by omega) (by omega)
 have am3:=mS (ao p q sch) zC (lk 3 lS) 0 0 (-1) 0 (by omega) (by omega) (by omega) (jV (by omega)) (aC (sb 3 lS JC) (by omega)) (by omega) (by omega)
 have am4:=mS (ao p q sch) zC (lk 4 lF) 0 0 (-1) 0 (by omega) (by omega) (by omega) (jV (by omega)) (aC (sb 4 lF JD) (by omega)) (by omega) (by omega)
 rw[show ba (jU 3) (-1) (bf lS)=lk 3 lS from rfl] at as3
 rw[show ba (jU 4) (-1) (bf lF)=lk 4 lF from rfl] at as4
 rw[show ba zC (-1) (lk 3 lS)=tz 3 lS from rfl] at am3
 rw[show ba zC (-1) (lk 4 lF)=tz 4 lF from rfl] at am4
 have hpe:fi p=dQ++(if p.fault=0 then[⟨0,0,-1,0⟩,⟨0,0,0,-1⟩] else[])++p.resilience:=rfl
 have hpd:(qn p).map (aN (ao p q sch))=kM (ao p q sch) (fi p)++[aN (ao p q sch) (lk 3 lS,0),aN (ao p q sch) (tz 3 lS,0)]++if gq p then[aN (ao p q sch) (lk 4 lF,0),aN (ao p q sch) (tz 4 lF,0)] else[]:=by
  unfold qn kM
  rw[List.map_append,List.map_append,List.map_map]
  congr 1
  split<;>rfl
 rw[hpd]
 clear hpd
 generalize ao p q sch=vars at*
 have hL1:p.fault=0->fi p=dQ++[⟨0,0,-1,0⟩,⟨0,0,0,-1⟩]++p.resilience:=fun h=>by rw[hpe,if_pos h]
 have hL2:¬p.fault=0->fi p=dQ++p.resilience:=fun h=>by rw[hpe,if_neg h,List.append_nil]
 clear hpe
 generalize fi p=LL at*
 generalize lk 3 lS=P3 at*
 generalize tz 3 lS=M3 at*
 generalize lk 4 lF=P4 at*
 generalize tz 4 lF=M4 at*
 obtain⟨R,hR⟩:∃R:Nat->List cK,R=fun x=>rows++kM vars (LL.take x):=⟨_,rfl⟩
 have hR0:R 0=rows:=by rw[hR];simp[kM]
 have hRn:∀x,x<LL.length->R (x+1)=R x++[aN vars (lP (LL.getD (x:Int).toNat dc))]:=fun x hx=>by
  rw[hR];dsimp only;rw[nK LL x hx,kN,List.append_assoc]
 have hRe:R LL.length=rows++kM vars LL:=by rw[hR];dsimp only;rw[List.take_length]
 have hRl:∀x,(R x).length<=1009:=fun x=>by rw[hR];unfold kM;simp only[List.length_append,List.length_map,List.length_take];omega
 clear hR
 refine ak.renorm 400 (R:=fun u M=>u= .tup []/\∃ℓ,(ℓ=65\/ℓ=90)/\cU [(200, .old 200),(201, .old 201),(202, .old ℓ)] 400 M (tU p vars (rows++(kM vars LL++[aN vars (P3,0),aN vars (M3,0)]++if gq p then[aN vars (P4,0),aN vars (M4,0)] else[])))) ?_ ?_
 case refine_2=>
  rintro u M ⟨rfl,ℓ,rfl|rfl,hM⟩
  ·exact⟨_,_, .tup [],rfl,hM,trivial,rfl,rfl⟩
  ·exact⟨_,_, .tup [],rfl,hM,trivial,rfl,rfl⟩
 rw[show rows++(kM vars LL++[aN vars (P3,0),aN vars (M3,0)]++if gq p then[aN vars (P4,0),aN vars (M4,0)] else[])=(R LL.length++[aN vars (P3,0),aN vars (M3,0)])++if gq p then[aN vars (P4,0),aN vars (M4,0)] else[] by rw[hRe];simp only[List.append_assoc]]
 refine ak.intro ac ag (cq p vars rows) Tryz.func104 rfl (by decide) ?_
 conv=>whnf
 refine bw dc bM dQ rfl ?_
 conv=>whnf
 apply once (A:=aH Tryz.prog _ (.loop _) ([.ptr 200 0, .top, .row 26 LL.length 4, .int .i64 0]++List.replicate 89 .top) (aj.ofL (tU p vars (R 0)++[(26, .row 130 dc bM LL)])) _)
 case k=>
  intro hs0
  refine ah ?_ ?_<;>(intro hf;conv=>whnf)
  ·refine bw dc bM [⟨0,0,-1,0⟩,⟨0,0,0,-1⟩] rfl ?_
   conv=>whnf
   refine bD [⟨0,0,-1,0⟩,⟨0,0,0,-1⟩] rfl (by simp only[dQ,List.length_cons,List.length_nil];omega) ?_
   conv=>whnf
   refine bD p.resilience rfl (by simp only[dQ,List.length_append,List.length_cons,List.length_nil];omega) ?_
   conv=>whnf
   exact aH.sub (by rw[hR0,hL1 hf];exact aL.by_ (FA++[(26, .old 26)]) _ 400 rfl (aa) (by unfold dQ;repeat' (first|exact True.intro|exact rfl|(refine And.intro ?_ ?_)|((conv=>whnf);omega)|((conv=>whnf);simp only[List.length_append,List.length_cons,List.length_nil];done)|((conv=>whnf);simp only[List.length_append,List.length_cons,List.length_nil];omega)))) hs0
  ·refine bD p.resilience rfl (by simp only[dQ,List.length_append,List.length_cons,List.length_nil];omega) ?_
   conv=>whnf
   exact aH.sub (by rw[hR0,hL2 hf];exact aL.by_ (FA++[(26, .old 26)]) _ 400 rfl (aa) (by unfold dQ;repeat' (first|exact True.intro|exact rfl|(refine And.intro ?_ ?_)|((conv=>whnf);omega)|((conv=>whnf);simp only[List.length_append,List.length_cons,List.length_nil];done)|((conv=>whnf);simp only[List.length_append,List.length_cons,List.length_nil];omega)))) hs0
 case h=>
  refine aH.loopF ac ag (fun x:Nat=>x<=LL.length) (fun x=>[(3, .int .i64 (x:Int))]) (fun x=>tU p vars (R x)++[(26, .row 130 dc bM LL)]) (fun x=>LL.length-x) 0 (Nat.zero_le _) ?_;conv=>whnf
  refine⟨aL.by_ (nN++[(26, .old 26)]) _ 400 rfl (aa) (aa),?_⟩
  rintro x hx
  conv=>whnf
  refine ah ?_ ?_<;>(intro h1;conv=>whnf)
  ·have hxl:x<LL.length:=by omega
   have hR1:=hRn x hxl
   have hRl1:=hRl x
   have hlx:=hlin (R x) (LL.getD (x:Int).toNat dc)
   apply cA
   case k=>
    intro o1 o2 o3 o4 o5 o6
    refine em [0,1,2,3,5,6,7,13,14] (by decide+kernel) ?_
    conv=>whnf
    repeat' first
     |exact True.intro
     |(refine And.intro ?_ ?_<;>conv=>whnf)
     |(refine cb ?_;conv=>whnf)
     |(refine bI (by clear o1 o2 o3 o4 o5 o6;omega) ?_;conv=>whnf)
     |(refine ak.call nO (cq p vars (R x)) 400 rfl (aa) (aa) hlx ?_;rintro u M' ⟨rfl,rfl⟩;refine⟨nQ,v6 202 p vars (R x), .agg [.sl 0 an (vars.map (bf (LL.getD (x:Int).toNat dc))), .int .i64 (LL.getD (x:Int).toNat dc).c],rfl,(aa),(aa),?_⟩;conv=>whnf)
     |(refine bw bz bE [aN vars (lP (LL.getD (x:Int).toNat dc))] rfl ?_;conv=>whnf)
     |(refine bD [aN vars (lP (LL.getD (x:Int).toNat dc))] rfl (by clear o1 o2 o3 o4 o5 o6;simp only[List.length_cons,List.length_nil];omega) ?_;conv=>whnf)
     |with_reducible exact o1
     |with_reducible exact o2
     |with_reducible exact o3
     |with_reducible exact o4
     |with_reducible exact o5
     |with_reducible exact o6
     |fail
   all_goals try first
    |exact True.intro
    |exact True
   all_goals
    repeat' ((first|refine nI ?_|refine aI ?_|refine tI ?_|refine fI ?_|fail);conv=>whnf)
    refine⟨x+1,?_,by omega,by dsimp only;omega⟩
    dsimp only
    rw[hR1]
    exact aL.by_ [(200, .old 200),(201, .old 201),(202, .old 45),(26, .old 26)] _ 400 rfl (aa) (aa)
  ·obtain rfl:x=LL.length:=by omega
   have hRl1:=hRl LL.length
   have h3:=hsta (R LL.length) 3
   have h4:=hsta (R LL.length++[aN vars (P3,0),aN vars (M3,0)]) 4
   have hlS:=hlin (R LL.length) lS
   have hlF:=hlin (R LL.length++[aN vars (P3,0),aN vars (M3,0)]) lF
   have hrw3:=hrow (R LL.length)
   have hrw4:=hrow (R LL.length++[aN vars (P3,0),aN vars (M3,0)])
   rw[show lS.c=0 from rfl] at hlS
   rw[show lF.c=0 from rfl] at hlF
   generalize R LL.length=RL at*
   generalize jU 3=D3 at*
   generalize jU 4=D4 at*
   generalize hLS:bf lS=LS at*
   generalize hLF:bf lF=LF at*
   clear hLS hLF
   refine ak.call nO (cq p vars RL) 400 rfl (aa) (aa) h3 ?_
   rintro u M' ⟨rfl,rfl⟩
   refine⟨nQ,v6 202 p vars RL, .agg [.sl 0 an (vars.map D3), .int .i64 0],rfl,(aa),(aa),?_⟩
   conv=>whnf
   refine ak.call nO (cq p vars RL) 400 rfl (aa) (aa) hlS ?_
   rintro u M' ⟨rfl,rfl⟩
   refine⟨nQ,v6 202 p vars RL, .agg [.sl 0 an (vars.map LS), .int .i64 0],rfl,(aa),(aa),?_⟩
   conv=>whnf
   refine oP as3 ?_
   conv=>whnf
   apply cA
   case k=>
    intro o1 o2 o3 o4 o5 o6
    refine em [0,1,2,3,6,12,13] (by decide+kernel) ?_
    conv=>whnf
    repeat' first
     |exact True.intro
     |(refine And.intro ?_ ?_<;>conv=>whnf)
     |(refine cb ?_;conv=>whnf)
     |(refine ak.call nO (cq p vars (RL)) 400 rfl (aa) (aa) hrw3 ?_;rintro u M' ⟨rfl,rfl⟩;refine⟨nQ,v6 202 p vars (RL), .agg [.sl 0 an (vars.map zC), .int .i64 0],rfl,(aa),(aa),?_⟩;conv=>whnf)
     |(refine oP (am3) ?_;conv=>whnf)
     |(refine bw bz bE [aN vars (P3,0),aN vars (M3,0)] rfl ?_;conv=>whnf)
     |(refine bD [aN vars (P3,0),aN vars (M3,0)] rfl (by clear o1 o2 o3 o4 o5 o6;simp only[List.length_cons,List.length_nil];omega) ?_;conv=>whnf)
     |with_reducible exact o1
     |with_reducible exact o2
     |with_reducible exact o3
     |with_reducible exact o4
     |with_reducible exact o5
     |with_reducible exact o6
     |fail
   all_goals try first
    |exact True.intro
    |exact True
   all_goals
    refine dC (d7 p) (fun _=>?_) (fun _=>?_)<;>(conv=>whnf)
    ·rename_i hw
     rw[if_pos hw]
     refine ak.call [(200, .old 200),(201, .old 65)] (cq p vars (RL++[aN vars (P3,0),aN vars (M3,0)])) 400 rfl (aa) (aa) h4 ?_
     rintro u M' ⟨rfl,rfl⟩
     refine⟨[(200, .old 200),(65, .old 201)],v6 65 p vars (RL++[aN vars (P3,0),aN vars (M3,0)]), .agg [.sl 0 an (vars.map D4), .int .i64 0],rfl,(aa),(aa),?_⟩
     conv=>whnf
     refine ak.call [(200, .old 200),(201, .old 65)] (cq p vars (RL++[aN vars (P3,0),aN vars (M3,0)])) 400 rfl (aa) (aa) hlF ?_
     rintro u M' ⟨rfl,rfl⟩
     refine⟨[(200, .old 200),(65, .old 201)],v6 65 p vars (RL++[aN vars (P3,0),aN vars (M3,0)]), .agg [.sl 0 an (vars.map LF), .int .i64 0],rfl,(aa),(aa),?_⟩
     conv=>whnf
     refine oP as4 ?_
     conv=>whnf
     refine em [0,1,2,3,6,12,13] (by decide+kernel) ?_
     conv=>whnf
     repeat' first
      |exact True.intro
      |exact⟨rfl,90, .inr rfl,(aa)⟩
      |(refine And.intro ?_ ?_<;>conv=>whnf)
      |(refine cb ?_;conv=>whnf)
      |(refine ak.call [(200, .old 200),(201, .old 65)] (cq p vars (RL++[aN vars (P3,0),aN vars (M3,0)])) 400 rfl (aa) (aa) hrw4 ?_;rintro u M' ⟨rfl,rfl⟩;refine⟨[(200, .old 200),(65, .old 201)],v6 65 p vars (RL++[aN vars (P3,0),aN vars (M3,0)]), .agg [.sl 0 an (vars.map zC), .int .i64 0],rfl,(aa),(aa),?_⟩;conv=>whnf)
      |(refine oP (am4) ?_;conv=>whnf)
      |(refine bw bz bE [aN vars (P4,0),aN vars (M4,0)] rfl ?_;conv=>whnf)
      |(refine bD [aN vars (P4,0),aN vars (M4,0)] rfl (by simp only[List.length_append,List.length_cons,List.length_nil];omega) ?_;conv=>whnf)
      |fail
    ·rename_i hw
     rw[if_neg hw,List.append_nil]
     exact⟨rfl,65, .inl rfl,(aa)⟩
end Go.Proofs.YtnjggjhkfncnlaaGreatDoor
