import Derived.Test.YtekmminpfhacpaaGreatDoorFP
import Derived.Test.YtekmminpfhacpaaGreatDoorM7
set_option linter.unusedVariables false
set_option linter.unusedSimpArgs false
namespace Go.Proofs.YtekmminpfhacpaaGreatDoor
set_option maxRecDepth 100000
set_option maxHeartbeats 16000000
theorem xu {c:az} {r:bo} {x:bH} (hw:bA c=false):bA (eD c r x)=false:=by
 have hc:=bE hw
 have h1:(eD c r x).sent.length=c.sent.length:=by unfold eD;dsimp only;split<;>simp[d7]
 have h2:(eD c r x).faulty.length=c.faulty.length:=by unfold eD;dsimp only;split<;>simp[d7]
 have h3:(eD c r x).states.length=c.states.length:=hZ c r x
 have h4:(eD c r x).shape.length=c.shape.length:=rfl
 unfold bA
 simp only[Bool.or_eq_false_iff,decide_eq_false_iff_not]
 omega
theorem AM {l ms:List Int} (hl:lV l 1048577) (h:IQ l ms):lV (bP l ms) 1048577:=by
 have key:∀k,k<=ms.length->∀j,0<=(bP l (ms.take k)).getD j 0/\(bP l (ms.take k)).getD j 0<=1048576:=by
  intro k
  induction k with
  |zero=>intro _ j;exact u5 hl j
  |succ k ih=>
   intro hk j
   have h1:=ih (by omega) j
   have h2:=ih (by omega) (ms.getD k 0).toNat
   have h3:=h k (by omega)
   rw[rS (by omega),cL] at h3⊢
   by_cases e:(ms.getD k 0).toNat=j/\(ms.getD k 0).toNat<(bP l (ms.take k)).length
   ·rw[if_pos ⟨rfl,e.2⟩] at h3
    rw[if_pos e]
    omega
   ·rw[if_neg e];exact h1
 intro j hj
 have:=key ms.length (Nat.le_refl _) j
 rw[List.take_length] at this
 omega
theorem gI.pto {p:an} {r:bo} (h:gI p r) (hk:r.kind=2\/r.kind=5):0<=r.pto/\r.pto<p.states.length:=by
 have:=h.kin
 unfold cW at this
 rcases hk with hk|hk
 ·rw[if_neg (by omega),if_pos hk] at this
  exact nu (bB this (cM r.pto p.states.length) (by simp))
 ·rw[if_neg (by omega),if_neg (by omega),if_neg (by omega),if_neg (by omega)] at this
  exact nu (bB this (cM r.pto p.states.length) (by simp))
theorem dx.next {p:an} {s:aJ} {c:az} {x:bH} (h:dx p s c) (he:mL p s c x false) (ha:nV c (p.rules.getD x.rule.toNat ap) x):dx p s (eD c (p.rules.getD x.rule.toNat ap) x):=by
 obtain⟨hin,hen⟩:=he
 have hR:=cQ h.val (i:=x.rule.toNat) (by omega)
 generalize p.rules.getD x.rule.toNat ap=r at hen hR ha⊢
 have hrd:=hR.read
 have hdst:=hR.dst
 have hv:=h.vc
 have hf:=u6 h.val
 have hC:¬(p.fault=0/\(s.t≠0\/s.f≠0)):=h.adm.2.1
 have hlen:=hv.len
 have hcor:=hv.cor
 have h1:(eD c r x).sent.length=c.sent.length:=by unfold eD;dsimp only;split<;>simp[d7]
 have h2:(eD c r x).faulty.length=c.faulty.length:=by unfold eD;dsimp only;split<;>simp[d7]
 have h3:(eD c r x).states.length=c.states.length:=hZ c r x
 unfold nV at ha
 refine⟨h.big,xu h.wide,h.val,h.siz,h.sz,h.adm,⟨by rw[h3];exact hlen,fun j hj=>?_,hcor,by rw[h1];exact hv.snl,?_,by rw[h2];exact hv.fal,?_,?_,?_,hv.tre,hv.non⟩⟩
 ·have e:(eD c r x).states.getD j 0=LB c r x j:=aM _ _ _ (by rw[h3] at hj;exact hj)
  rw[e]
  rw[h3] at hj
  have hs:=hv.sta j hj
  unfold LB
  by_cases e1:(j:Int)=x.process
  ·rw[if_pos e1];exact hdst
  ·rw[if_neg e1]
   by_cases e2:(r.kind=2\/r.kind=5)/\(j:Int)=x.partner
   ·rw[if_pos e2];exact hR.pto e2.1
   ·rw[if_neg e2]
    by_cases e3:r.kind=3
    ·rw[if_pos e3]
     obtain⟨g1,g2⟩:=hR.resp e3
     exact g2 _ (by omega)
    ·rw[if_neg e3];exact hs
 ·by_cases hc:x.process<c.correct
  ·rw[if_pos hc] at ha
   rw[AJ hc]
   exact AM hv.sen ha
  ·rw[AK hc];exact hv.sen
 ·by_cases hc:x.process<c.correct
  ·rw[AJ hc];exact hv.fau
  ·rw[if_neg hc] at ha
   rw[AK hc]
   have hw:yM p=1048576:=by
    unfold yM
    rw[if_pos]
    unfold gk at hlen
    by_cases e3:p.fault=3
    ·rw[if_pos e3] at hlen;omega
    ·rw[if_neg e3] at hlen;omega
   have:=hv.fau
   rw[hw] at this⊢
   exact AM this ha
 ·show 0<=(if r.write=-1 then c.value else r.write)
  have:=hv.va0
  split<;>omega
 ·show(if r.write=-1 then c.value else r.write)<1\/(if r.write=-1 then c.value else r.write)<p.values.length
  have:=hv.va1
  split<;>omega
theorem dx.vcon {p:an} {s:aJ} {c:az} (h:dx p s c):cF p s c=0:=by
 have hs:=h.sz
 have hz:cr p s=0:=by
  unfold cr
  rw[if_neg (by rw[h.val];omega),if_neg (fun hn=>hn h.adm),if_neg (by omega)]
 unfold cF
 rw[if_neg (by omega)]
 unfold pB
 rw[if_pos h.vc]
def ce (p:an) (x:bH):bo:=p.rules.getD x.rule.toNat ap
noncomputable def rp (p:an) (s:aJ):List az->az->List bH->AV
 |acc,_,[]=>vS acc 0
 |acc,cur,x::xs=>if mL p s cur x false then(if nV cur (ce p x) x then rp p s (acc++[eD cur (ce p x) x]) (eD cur (ce p x) x) xs else vS [] 4) else vS [] 9
theorem Nj {l:List bH} {k:Nat} (h:k<l.length):l.drop k=l.getD k bI::l.drop (k+1):=by
 rw[List.drop_eq_getElem_cons h,gD,gL h]
 rfl
theorem u9 (p:an) (s:aJ):∀(xs:List bH) (acc:List az) (cur:az),(∀d∈acc,bA d=false)->bA cur=false->∃l e,rp p s acc cur xs=vS l e/\l.length<=acc.length+xs.length/\∀d∈l,bA d=false
 |[],acc,cur,h1,_=>⟨acc,0,rfl,by simp,h1⟩
 |x::xs,acc,cur,h1,h2=>by
  rw[rp]
  by_cases he:mL p s cur x false
  ·rw[if_pos he]
   by_cases ha:nV cur (ce p x) x
   ·rw[if_pos ha]
    have hw:bA (eD cur (ce p x) x)=false:=xu h2
    obtain⟨l,e,g1,g2,g3⟩:=u9 p s xs (acc++[eD cur (ce p x) x]) (eD cur (ce p x) x) (fun d hd=>by
     rcases List.mem_append.1 hd with hd|hd
     ·exact h1 d hd
     ·rw[List.mem_singleton] at hd;rw[hd];exact hw) hw
    refine⟨l,e,g1,?_,g3⟩
    rw[List.length_append,List.length_singleton] at g2
    rw[List.length_cons]
    omega
   ·rw[if_neg ha];exact⟨[],4,rfl,by simp,by simp⟩
  ·rw[if_neg he];exact⟨[],9,rfl,by simp,by simp⟩
theorem CG (acc:List az) (d:az):(acc++[d]).getD acc.length aU=d:=by
 rw[gD,List.getElem?_append_right (Nat.le_refl _),Nat.sub_self]
 rfl
end Go.Proofs.YtekmminpfhacpaaGreatDoor
