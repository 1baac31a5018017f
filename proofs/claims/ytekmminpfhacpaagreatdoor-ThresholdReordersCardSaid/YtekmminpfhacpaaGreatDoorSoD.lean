import Derived.Test.YtekmminpfhacpaaGreatDoorS1
import Derived.Test.YtekmminpfhacpaaGreatDoorPD
import Derived.Test.YtekmminpfhacpaaGreatDoorY1
import Derived.Test.YtekmminpfhacpaaGreatDoorV1
import Derived.Test.YtekmminpfhacpaaGreatDoorW3
import Derived.Test.YtekmminpfhacpaaGreatDoorX1
import Derived.Test.YtekmminpfhacpaaGreatDoorFL
import Derived.Test.YtekmminpfhacpaaGreatDoorJ1
set_option linter.unusedVariables false
set_option linter.unusedSimpArgs false
namespace Go.Proofs.YtekmminpfhacpaaGreatDoor
set_option maxRecDepth 100000
set_option maxHeartbeats 16000000
theorem tP (p:an) (q:aG) (s:aJ) (r:Rn):(∃e,e≠0/\Mj p q s r=([],[],e))\/(kN p q s=0/\r9 p q s r/\Mj p q s r=((d8 p s r).1,(ak p q (d8 p s r).1).map (fx s r (d8 p s r).2),0)):=by
 unfold Mj
 by_cases h1:kN p q s≠0
 ·rw[if_pos h1];exact .inl ⟨_,h1,rfl⟩
 rw[if_neg h1]
 by_cases h2:¬I5 p q s r
 ·rw[if_pos h2];exact .inl ⟨10,by decide,rfl⟩
 rw[if_neg h2]
 have h1:=Classical.not_not.1 h1
 exact .inr ⟨h1,JX h1 (Classical.not_not.1 h2),rfl⟩
theorem L' {p:an} {q:aG} (h:cb p q=0):oX p q<=64:=by
 unfold cb at h
 (repeat' split at h)<;>omega
theorem GS {p:an} {q:aG} {s:aJ} {r:Rn} (hk:r9 p q s r) (h:CN p q s r\/CO p q s (kJ q) ⟨r.start,r.steps,[]⟩):∃number,number<oX p q/\o8 (kq p q (d8 p s r).1 (number:Int)) ((ak p q (d8 p s r).1).map (fx s r (d8 p s r).2)):=by
 rcases h with ⟨_,hq,_,_,hb⟩|⟨_,hq,_,_,_,hl⟩
 ·refine⟨0,?_,oc hk.sg hk.gu fun _=>GG hk.sg hq hb _⟩
  unfold oX
  rw[if_neg (by omega)]
  exact Nat.one_pos
 ·obtain⟨n,hn,hw⟩:=CU hk.sg hq (hl.not _ kx) fun i j hi hj hf=>by
   rcases hl.free i j hi hj with ⟨x,hx,_⟩|⟨d,hd,hh⟩
   ·cases hx
   ·have e:d=pl p ⟨r.start,r.steps,[]⟩:=List.mem_singleton.1 hd
    rw[e] at hh
    exact hh hf
  exact⟨n,hn,oc hk.sg hk.gu fun _=>by rw[tN];exact hw⟩
theorem vN (p:an) (q:aG) (hp:iO p) (hq:pN q) (s:aJ) (r:Rn) (hc:AN r.start) (hl:r.steps.length<=140737488355328):
  ab Tryz.prog 5 [.agg (AG p q), .agg (cq s), .agg (mA r)] (fun u=>u= .bool true):=by
 have hs:=FU
 have hF:=xI p q s r hp hq hc hl
 have hCa:=KZ p q hp hq
 refine ab.intro ae ag Tryz.func5 rfl (by decide) ?_;(conv=>whnf)
 refine al rfl ?_
 conv=>whnf
 refine al rfl ?_
 conv=>whnf
 refine al rfl ?_
 conv=>whnf
 apply f7
 case k=>
  intro o1 o2 o3 o4 o5 o6
  refine AH [0,1,2,3] (by decide+kernel) ?_
  conv=>whnf
  repeat' first
   |exact True.intro
   |(refine And.intro ?_ ?_<;>conv=>whnf)
   |with_reducible exact o1
   |with_reducible exact o2
   |with_reducible exact o3
   |with_reducible exact o4
   |with_reducible exact o5
   |with_reducible exact o6
   |fail
 all_goals try first
  |exact True.intro
  |exact True
 all_goals
  rcases tP p q s r with ⟨e,e0,eA⟩|⟨hz,hk,eA⟩
  ·rw[eA] at hF
   unfold I6 at hF
   dsimp only at hF
   (refine oP (hF) ?_;conv=>whnf)
   refine cC e0 ?_
   conv=>whnf
   (refine oP (hs) ?_;conv=>whnf)
   exact⟨rfl,rfl⟩
  have hchk:=vr hz
  have hcs:=L' hchk
  have hvc:=GS hk
  have hsch:=hk.sch
  have hpr:=hk.prp
  have hv:=aF hpr
  have hsl:=c5 hsch
  have htl:=(aL hv.vld).thr
  have hvl:=eK hpr hsch
  have hsat0:o8 (kq p q (d8 p s r).1 (-1)) ((ak p q (d8 p s r).1).map (fx s r (d8 p s r).2)):=oc hk.sg hk.gu fun h=>absurd h (by decide)
  have hxl:((ak p q (d8 p s r).1).map (fx s r (d8 p s r).2)).length=(ak p q (d8 p s r).1).length:=List.length_map _
  rw[eA] at hF
  unfold I6 at hF
  dsimp only at hF
  generalize (d8 p s r).1=sch at*
  generalize (ak p q sch).map (fx s r (d8 p s r).2)=x at*
  have hB:∀number:Int,-1<=number->number<oX p q->_:=fun number h1 h2=>by
   have h:=FM p q hp hq sch (by omega) number
   rw[IE,if_neg (fun y=>y hchk),if_neg (fun hh=>by
    rcases hh with hh|hh|hh
    ·exact hh hsch
    ·omega
    ·omega)] at h
   exact h
  have hSA:∀number:Int,_:=fun number=>rJ (kq p q sch number) x (tD (uP hpr hsch number)) (by omega)
  have hc0:0<oX p q:=by
   unfold oX
   split
   ·exact uF _ _
   ·omega
  have hB0:=hB (-1) (by omega) (by omega)
  have hS0:=hSA (-1)
  rw[show decide (o8 (kq p q sch (-1)) x)=true from decide_eq_true hsat0] at hS0
  unfold Au kq at hSA hS0
  dsimp only at hSA hS0
  rw[if_pos hchk,hchk] at hCa
  have hbp:=hk.rdy.big
  have hbq:=nz hpr
  have hIV:=n7 p q s r hbp hbq hk.rdy.wide (by have:=hk.len;omega) hk.thr
  have hIL:=xG p q s ⟨r.start,r.steps,[]⟩ hbp hbq hk.rdy.wide (by have:=hk.len;dsimp only;omega) (by simp) hk.thr
  have hIL:=hIL.arg (args:=[.agg (aR p), .agg (df q), .agg (cq s), .agg (aW r.start++[.sl bI dG r.steps, .nilsl])]) (aa) rfl
  (refine oP (hF) ?_;conv=>whnf)
  refine fP (by decide) ?_
  conv=>whnf
  (refine oP (hB0) ?_;conv=>whnf)
  refine fP (by decide) ?_
  conv=>whnf
  (refine oP (hS0) ?_;conv=>whnf)
  rcases hv.kind with k|k
  ·refine cC k ?_
   conv=>whnf
   refine dC (hIV) (fun _=>?_) (fun _=>?_)<;>(conv=>whnf)
   case refine_2=>
    refine fI ?_
    conv=>whnf
    (refine oP (hs) ?_;conv=>whnf)
    exact⟨rfl,rfl⟩
   rename_i hvio
   have hex:=hvc (.inl hvio)
   obtain⟨N0,hN0,hsN⟩:=hex
   (refine oP (hCa) ?_;conv=>whnf)
   refine aQ.loopF ae ag (fun i:Nat=>i<=N0) (fun i=>[(17, .int .i64 (i:Int)),(12, .top)]) (fun _=>[(7, .box 27 (aR p)),(8, .box 30 (df q))]) (fun i=>N0-i) 0 (Nat.zero_le _) ?_;conv=>whnf
   refine⟨sI,?_⟩
   intro i hi
   have hBi:=hB i (by omega) (by omega)
   have hSi:=hSA i
   conv=>whnf
   refine tI ?_
   conv=>whnf
   (refine oP (hBi) ?_;conv=>whnf)
   refine fP (by decide) ?_
   conv=>whnf
   refine dC (hSi) (fun _=>?_) (fun _=>?_)<;>(conv=>whnf)
   ·(refine oP (hs) ?_;conv=>whnf)
    exact⟨rfl,rfl⟩
   ·rename_i hno
    have hne:i≠N0:=fun e=>hno (e▸hsN)
    repeat' ((first|refine nI ?_|refine aI ?_|refine fb trivial (by omega) ?_|refine fv trivial (by omega) ?_|refine dI ?_|refine dR ?_|refine dP ?_|refine al rfl ?_|refine pI _ rfl ?_|refine aw _ rfl ?_|refine tI ?_|refine fI ?_|refine ah (fun _=>?_) (fun _=>?_))<;>conv=>whnf)
    exact⟨i+1,sI,by omega,by dsimp only;omega⟩
  ·refine fI ?_
   conv=>whnf
   refine cC k ?_
   conv=>whnf
   refine dC (hIL) (fun _=>?_) (fun _=>?_)<;>(conv=>whnf)
   case refine_2=>
    (refine oP (hs) ?_;conv=>whnf)
    exact⟨rfl,rfl⟩
   rename_i hvio
   have hex:=hvc (.inr hvio)
   obtain⟨N0,hN0,hsN⟩:=hex
   (refine oP (hCa) ?_;conv=>whnf)
   refine aQ.loopF ae ag (fun i:Nat=>i<=N0) (fun i=>[(17, .int .i64 (i:Int)),(12, .top)]) (fun _=>[(7, .box 27 (aR p)),(8, .box 30 (df q))]) (fun i=>N0-i) 0 (Nat.zero_le _) ?_;conv=>whnf
   refine⟨sI,?_⟩
   intro i hi
   have hBi:=hB i (by omega) (by omega)
   have hSi:=hSA i
   conv=>whnf
   refine tI ?_
   conv=>whnf
   (refine oP (hBi) ?_;conv=>whnf)
   refine fP (by decide) ?_
   conv=>whnf
   refine dC (hSi) (fun _=>?_) (fun _=>?_)<;>(conv=>whnf)
   ·(refine oP (hs) ?_;conv=>whnf)
    exact⟨rfl,rfl⟩
   ·rename_i hno
    have hne:i≠N0:=fun e=>hno (e▸hsN)
    repeat' ((first|refine nI ?_|refine aI ?_|refine fb trivial (by omega) ?_|refine fv trivial (by omega) ?_|refine dI ?_|refine dR ?_|refine dP ?_|refine al rfl ?_|refine pI _ rfl ?_|refine aw _ rfl ?_|refine tI ?_|refine fI ?_|refine ah (fun _=>?_) (fun _=>?_))<;>conv=>whnf)
    exact⟨i+1,sI,by omega,by dsimp only;omega⟩
end Go.Proofs.YtekmminpfhacpaaGreatDoor
