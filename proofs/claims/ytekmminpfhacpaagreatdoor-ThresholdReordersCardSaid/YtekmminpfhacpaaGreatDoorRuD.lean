import Derived.Test.YtekmminpfhacpaaGreatDoorS2
import Derived.Test.YtekmminpfhacpaaGreatDoorFhH
import Derived.Test.YtekmminpfhacpaaGreatDoorW0
import Derived.Test.YtekmminpfhacpaaGreatDoorY1
import Derived.Test.YtekmminpfhacpaaGreatDoorFL
import Derived.Test.YtekmminpfhacpaaGreatDoorFS
import Derived.Test.YtekmminpfhacpaaGreatDoorRT
import Derived.Test.YtekmminpfhacpaaGreatDoorJ1
set_option linter.unusedVariables false
set_option linter.unusedSimpArgs false
namespace Go.Proofs.YtekmminpfhacpaaGreatDoor
set_option maxRecDepth 100000
set_option maxHeartbeats 16000000
theorem GT {p:an} {q:aG} {sch x:List Int} {number:Int} (h:pk p q sch x number=0):cb p q=0/\da (ax p.rules).length sch/\o8 (kq p q sch number) x/\¬8<x.getD 0 0/\(mj p q sch x).2.2=0:=by
 unfold pk at h
 by_cases h1:cb p q≠0
 ·rw[if_pos h1] at h;exact absurd h h1
 rw[if_neg h1] at h
 by_cases h2:¬da (ax p.rules).length sch\/number< -1\/(oX p q:Int)<=number
 ·rw[if_pos h2] at h;exact absurd h (by decide)
 rw[if_neg h2] at h
 by_cases h3:¬o8 (kq p q sch number) x
 ·rw[if_pos h3] at h;exact absurd h (by decide)
 rw[if_neg h3] at h
 by_cases h4:8<x.getD 0 0
 ·rw[if_pos h4] at h;exact absurd h (by decide)
 rw[if_neg h4] at h
 exact⟨Classical.not_not.1 h1,Classical.not_not.1 fun y=>h2 (.inl y),Classical.not_not.1 h3,h4,h⟩
theorem zF {p:an} {q:aG} {s:aJ} {r:Rn} {sch seg:List Int} (hk:dy p q s r sch seg):Ha p s r= .tup [.sl aU aW (cY p r.start r.steps), .int .i64 0]:=by
 unfold Ha
 rw[if_neg (fun y=>y (mN hk.rdy)),if_pos hk.rdy.vc]
 exact xC hk.run
theorem Jk {p:an} {q:aG} {sch x:List Int} {number:Int} (he:pk p q sch x number=0):∃(c:az) (ys:List bH) (F:Nat->Int) (seg:List Int),
  xB p q sch x number= .tup [.agg (cq ⟨x.getD 0 0,x.getD 1 0,x.getD 2 0⟩), .agg (aW c++[.sl bI dG ys]), .int .i64 0]/\(F 0=0/\(∀i,i<(ak p q sch).length->F (i+1)=F i+if 5<=((ak p q sch).getD i dU).kind then x.getD i 0 else 0)/\(∀i,0<=F i/\F i<=1048576*96)/\F (ak p q sch).length=ys.length)/\
  dy p q ⟨x.getD 0 0,x.getD 1 0,x.getD 2 0⟩ ⟨c,ys⟩ sch seg/\(0<=number->q.kind=1->CN p q ⟨x.getD 0 0,x.getD 1 0,x.getD 2 0⟩ ⟨c,ys⟩)/\(0<=number->q.kind=2->CO p q ⟨x.getD 0 0,x.getD 1 0,x.getD 2 0⟩ (kJ q) ⟨c,ys,[]⟩)/\x.length=(ak p q sch).length/\da (ax p.rules).length sch/\cb p q=0/\(∀m,m<x.length->0<=x.getD m 0/\x.getD m 0<=1048576):=by
 obtain⟨k1,k2,k4,k5,k6⟩:=GT he
 have hS:=Bo k1 k2 k4 k5
 have hk:=sj hS k6
 have hst:=CZ hS k6
 have hn:=bu hS.sol.prp sch
 have hvl:=eK hS.sol.prp k2
 have e:kz p q sch x=⟨x.getD 0 0,x.getD 1 0,x.getD 2 0⟩:=hS.sol.siz
 have hA:=zu he
 have e2:ew (iC (ak p q sch) x)=⟨x.getD 0 0,x.getD 1 0,x.getD 2 0⟩:=e
 rw[e2] at hA
 have v1:=fun hn hq=>CY hS k6 hn hq
 have v2:=fun hn hq=>GO hS k6 hn hq (qc k1).2
 rw[e] at hk v1 v2
 refine⟨_,_,fun i=>bk Db (aX p q sch x) ((ak p q sch).take i),_,hA,⟨rfl,fun i hi=>Nw hn hi,fun i=>?_,?_⟩,hk,v1,v2,hS.sol.len,k2,k1,hS.sol.pnt⟩
 ·have:=Nx (a:=aX p q sch x) (l:=(ak p q sch).take i) fun v hv=>hS.pos v (List.mem_of_mem_take hv)
  rw[List.length_take] at this
  dsimp only
  omega
 ·dsimp only
  rw[List.take_length]
  exact hst
theorem Jl (p:an) (q:aG) (hp:iO p) (hq:pN q) (sch:List Int) (hl:sch.length<=140737488355328) (number:Int) (x:List Int) (hx:x.length<=140737488355328):
  ab Tryz.prog 6 [.agg (AG p q), .agg (J7 sch number), .sl 0 ao x] (fun u=>u= .bool true):=by
 have hs:=FU
 have hF:=pK p q hp hq sch hl number x hx
 refine ab.intro ae ag Tryz.func6 rfl (by decide) ?_;(conv=>whnf)
 refine al rfl ?_
 conv=>whnf
 refine al rfl ?_
 conv=>whnf
 apply f7
 case k=>
  intro o1 o2 o3 o4 o5 o6
  refine AH [0,1,2,3] (by decide+kernel) ?_
  conv=>whnf
  repeat' first
   |exact True.intro
   |(refine And.intro ?_ ?_<;>conv=>whnf)
   |with_reducible exact o1
   |with_reducible exact o2
   |with_reducible exact o3
   |with_reducible exact o4
   |with_reducible exact o5
   |with_reducible exact o6
   |fail
 all_goals try first
  |exact True.intro
  |exact True
 all_goals
  refine dI ?_
  conv=>whnf
  by_cases he:pk p q sch x number=0
  rotate_left
  ·rw[Gi rfl he] at hF
   (refine oP (hF) ?_;conv=>whnf)
   refine cC he ?_
   conv=>whnf
   (refine oP (hs) ?_;conv=>whnf)
   exact⟨rfl,rfl⟩
  obtain⟨c,ys,F,seg,eA,⟨f0,f1,f2,f3⟩,hk,v1,v2,hlx,hsch,hchk,hpn⟩:=Jk he
  rw[eA] at hF
  have hV:=zd p q hp hq sch hl
  rw[Cu,if_neg (fun y=>y hchk),if_neg (fun y=>y hsch)] at hV
  have hval:=hk.rdy.val
  have hw:=bE hk.rdy.wide
  have hlen:=hk.len
  dsimp only at hw hlen
  have hR:=qm p ⟨x.getD 0 0,x.getD 1 0,x.getD 2 0⟩ ⟨c,ys⟩ hp hval hk.thr (by unfold AN;dsimp only;omega) (by dsimp only;omega)
  rw[zF hk] at hR
  have hbq:=nz hk.prp
  have hIV:=n7 p q ⟨x.getD 0 0,x.getD 1 0,x.getD 2 0⟩ ⟨c,ys⟩ hk.rdy.big hbq hk.rdy.wide (by dsimp only;omega) hk.thr
  have hIL:=xG p q ⟨x.getD 0 0,x.getD 1 0,x.getD 2 0⟩ ⟨c,ys,[]⟩ hk.rdy.big hbq hk.rdy.wide (by dsimp only;omega) (by simp) hk.thr
  have hvl:=eK hk.prp hsch
  have hkd:=(aF hk.prp).kind
  have h3:3<=(ak p q sch).length:=by unfold ak;simp only[List.length_append,List.length_cons];omega
  have hIL:=hIL.arg (args:=[.agg (aR p), .agg (df q), .agg (cq ⟨x.getD 0 0,x.getD 1 0,x.getD 2 0⟩), .agg (aW c++[.sl bI dG ys, .nilsl])]) (aa) rfl
  unfold mA at hR hIV
  dsimp only at hR hIV
  generalize ak p q sch=vars at*
  generalize cY p c ys=A at*
  clear hk
  (refine oP (hF) ?_;conv=>whnf)
  refine fP (by decide) ?_
  conv=>whnf
  (refine oP (hV) ?_;conv=>whnf)
  refine fP (by decide) ?_
  conv=>whnf
  refine fI ?_
  conv=>whnf
  refine aQ.loopF ae ag (fun i:Nat=>i<=vars.length) (fun i=>[(16, .int .i64 (F i)),(17, .int .i64 (i:Int))]) (fun _=>[(7, .box 27 (aR p)),(8, .box 30 (df q)),(11, .box 59 (cq ⟨x.getD 0 0,x.getD 1 0,x.getD 2 0⟩)),(12, .box 64 (aW c++[.sl bI dG ys]))]) (fun i=>vars.length-i) 0 (Nat.zero_le _) ?_;conv=>whnf
  refine⟨by rw[f0];exact sI,?_⟩
  intro i hi
  have fi:=f2 i
  have fu:=f1 i
  conv=>whnf
  refine ah ?_ ?_<;>(intro g1;conv=>whnf)
  ·refine nI ?_
   rw[tN]
   conv=>whnf
   refine ah ?_ ?_<;>(intro g2;conv=>whnf)
   ·refine nI ?_
    rw[tN]
    conv=>whnf
    have hpi:=hpn i (by omega)
    have fj:=f2 (i+1)
    rw[fu (by omega),if_pos g2] at fj
    repeat' ((first|refine nI ?_|refine aI ?_|refine fb trivial (by omega) ?_|refine fv trivial (by omega) ?_|refine dI ?_|refine dR ?_|refine dP ?_|refine al rfl ?_|refine pI _ rfl ?_|refine aw _ rfl ?_|refine tI ?_|refine fI ?_|refine ah (fun _=>?_) (fun _=>?_))<;>conv=>whnf)
    refine⟨i+1,?_,by omega,by dsimp only;omega⟩
    dsimp only
    rw[fu (by omega),if_pos g2]
    exact bn.by_ [(7, .old 7),(8, .old 8),(11, .old 11),(12, .old 12)] _ 400 rfl (aa) (aa)
   ·repeat' ((first|refine nI ?_|refine aI ?_|refine fb trivial (by omega) ?_|refine fv trivial (by omega) ?_|refine dI ?_|refine dR ?_|refine dP ?_|refine al rfl ?_|refine pI _ rfl ?_|refine aw _ rfl ?_|refine tI ?_|refine fI ?_|refine ah (fun _=>?_) (fun _=>?_))<;>conv=>whnf)
    refine⟨i+1,?_,by omega,by dsimp only;omega⟩
    dsimp only
    rw[fu (by omega),if_neg g2,Int.add_zero]
    exact bn.by_ [(7, .old 7),(8, .old 8),(11, .old 11),(12, .old 12)] _ 400 rfl (aa) (aa)
  ·obtain rfl:i=vars.length:=by omega
   rw[f3]
   (refine oP (hR) ?_;conv=>whnf)
   refine dI ?_
   conv=>whnf
   refine fP (by decide) ?_
   conv=>whnf
   refine fI ?_
   conv=>whnf
   refine nI ?_
   conv=>whnf
   refine nI ?_
   conv=>whnf
   refine nI ?_
   conv=>whnf
   refine fP (fun h=>h rfl) ?_
   conv=>whnf
   by_cases hn:0<=number
   ·refine tI ?_
    conv=>whnf
    rcases hkd with k|k
    ·refine cC k ?_
     conv=>whnf
     rw[decide_eq_true (v1 hn k)] at hIV
     (refine oP (hIV) ?_;conv=>whnf)
     (refine oP (hs) ?_;conv=>whnf)
     exact⟨rfl,rfl⟩
    ·refine fI ?_
     conv=>whnf
     refine tI ?_
     conv=>whnf
     rw[decide_eq_true (v2 hn k)] at hIL
     (refine oP (hIL) ?_;conv=>whnf)
     (refine oP (hs) ?_;conv=>whnf)
     exact⟨rfl,rfl⟩
   ·refine fI ?_
    conv=>whnf
    refine fI ?_
    conv=>whnf
    (refine oP (hs) ?_;conv=>whnf)
    exact⟨rfl,rfl⟩
end Go.Proofs.YtekmminpfhacpaaGreatDoor
