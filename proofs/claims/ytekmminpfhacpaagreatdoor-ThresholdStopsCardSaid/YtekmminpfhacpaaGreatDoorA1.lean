import Derived.Test.YtekmminpfhacpaaGreatDoorFP
set_option linter.unusedVariables false
set_option linter.unusedSimpArgs false
namespace Go.Proofs.YtekmminpfhacpaaGreatDoor
set_option maxRecDepth 100000
set_option maxHeartbeats 16000000
theorem t9 {c:ay} {r:bC} {x:cj} (hw:bh c=false):bh (d9 c r x)=false:=by
 have hc:=br hw
 have h1:(d9 c r x).sent.length=c.sent.length:=by unfold d9;dsimp only;split<;>simp[dp]
 have h2:(d9 c r x).faulty.length=c.faulty.length:=by unfold d9;dsimp only;split<;>simp[dp]
 have h3:(d9 c r x).states.length=c.states.length:=j6 c r x
 have h4:(d9 c r x).shape.length=c.shape.length:=rfl
 unfold bh
 simp only[Bool.or_eq_false_iff,decide_eq_false_iff_not]
 omega
theorem wS {l ms:List Int} (hl:iy l 1048577) (h:Dy l ms):iy (bR l ms) 1048577:=by
 have key:∀k,k<=ms.length->∀j,0<=(bR l (ms.take k)).getD j 0/\(bR l (ms.take k)).getD j 0<=1048576:=by
  intro k
  induction k with
  |zero=>intro _ j;exact i5 hl j
  |succ k ih=>
   intro hk j
   have h1:=ih (by omega) j
   have h2:=ih (by omega) (ms.getD k 0).toNat
   have h3:=h k (by omega)
   rw[gt (by omega),b8] at h3⊢
   by_cases e:(ms.getD k 0).toNat=j/\(ms.getD k 0).toNat<(bR l (ms.take k)).length
   ·rw[if_pos ⟨rfl,e.2⟩] at h3
    rw[if_pos e]
    omega
   ·rw[if_neg e];exact h1
 intro j hj
 have:=key ms.length (Nat.le_refl _) j
 rw[List.take_length] at this
 omega
theorem fP.pto {p:an} {r:bC} (h:fP p r) (hk:r.kind=2\/r.kind=5):0<=r.pto/\r.pto<p.states.length:=by
 have:=h.kin
 unfold cu at this
 rcases hk with hk|hk
 ·rw[if_neg (by omega),if_pos hk] at this
  exact lA (bG this (ci r.pto p.states.length) (by simp))
 ·rw[if_neg (by omega),if_neg (by omega),if_neg (by omega),if_neg (by omega)] at this
  exact lA (bG this (ci r.pto p.states.length) (by simp))
theorem dk.next {p:an} {s:aC} {c:ay} {x:cj} (h:dk p s c) (he:iZ p s c x false) (ha:kq c (p.rules.getD x.rule.toNat aq) x):dk p s (d9 c (p.rules.getD x.rule.toNat aq) x):=by
 obtain⟨hin,hen⟩:=he
 have hR:=cG h.val (i:=x.rule.toNat) (by omega)
 generalize p.rules.getD x.rule.toNat aq=r at hen hR ha⊢
 have hrd:=hR.read
 have hdst:=hR.dst
 have hv:=h.vc
 have hf:=rR h.val
 have hC:¬(p.fault=0/\(s.t≠0\/s.f≠0)):=h.adm.2.1
 have hlen:=hv.len
 have hcor:=hv.cor
 have h1:(d9 c r x).sent.length=c.sent.length:=by unfold d9;dsimp only;split<;>simp[dp]
 have h2:(d9 c r x).faulty.length=c.faulty.length:=by unfold d9;dsimp only;split<;>simp[dp]
 have h3:(d9 c r x).states.length=c.states.length:=j6 c r x
 unfold kq at ha
 refine⟨h.big,t9 h.wide,h.val,h.siz,h.sz,h.adm,⟨by rw[h3];exact hlen,fun j hj=>?_,hcor,by rw[h1];exact hv.snl,?_,by rw[h2];exact hv.fal,?_,?_,?_,hv.tre,hv.non⟩⟩
 ·have e:(d9 c r x).states.getD j 0=Dx c r x j:=aH _ _ _ (by rw[h3] at hj;exact hj)
  rw[e]
  rw[h3] at hj
  have hs:=hv.sta j hj
  unfold Dx
  by_cases e1:(j:Int)=x.process
  ·rw[if_pos e1];exact hdst
  ·rw[if_neg e1]
   by_cases e2:(r.kind=2\/r.kind=5)/\(j:Int)=x.partner
   ·rw[if_pos e2];exact hR.pto e2.1
   ·rw[if_neg e2]
    by_cases e3:r.kind=3
    ·rw[if_pos e3]
     obtain⟨g1,g2⟩:=hR.resp e3
     exact g2 _ (by omega)
    ·rw[if_neg e3];exact hs
 ·by_cases hc:x.process<c.correct
  ·rw[if_pos hc] at ha
   rw[qD hc]
   exact wS hv.sen ha
  ·rw[qE hc];exact hv.sen
 ·by_cases hc:x.process<c.correct
  ·rw[qD hc];exact hv.fau
  ·rw[if_neg hc] at ha
   rw[qE hc]
   have hw:rj p=1048576:=by
    unfold rj
    rw[if_pos]
    unfold io at hlen
    by_cases e3:p.fault=3
    ·rw[if_pos e3] at hlen;omega
    ·rw[if_neg e3] at hlen;omega
   have:=hv.fau
   rw[hw] at this⊢
   exact wS this ha
 ·show 0<=(if r.write=-1 then c.value else r.write)
  have:=hv.va0
  split<;>omega
 ·show(if r.write=-1 then c.value else r.write)<1\/(if r.write=-1 then c.value else r.write)<p.values.length
  have:=hv.va1
  split<;>omega
theorem dk.vcon {p:an} {s:aC} {c:ay} (h:dk p s c):bW p s c=0:=by
 have hs:=h.sz
 have hz:aJ p s=0:=by
  unfold aJ
  rw[if_neg (by rw[h.val];omega),if_neg (fun hn=>hn h.adm),if_neg (by omega)]
 unfold bW
 rw[if_neg (by omega)]
 unfold km
 rw[if_pos h.vc]
def cN (p:an) (x:cj):bC:=p.rules.getD x.rule.toNat aq
noncomputable def rp (p:an) (s:aC):List ay->ay->List cj->AV
 |acc,_,[]=>pC acc 0
 |acc,cur,x::xs=>if iZ p s cur x false then(if kq cur (cN p x) x then rp p s (acc++[d9 cur (cN p x) x]) (d9 cur (cN p x) x) xs else pC [] 4) else pC [] 9
theorem Bp {l:List cj} {k:Nat} (h:k<l.length):l.drop k=l.getD k cH::l.drop (k+1):=by
 rw[List.drop_eq_getElem_cons h,gD,gL h]
 rfl
theorem rT (p:an) (s:aC):∀(xs:List cj) (acc:List ay) (cur:ay),(∀d∈acc,bh d=false)->bh cur=false->∃l e,rp p s acc cur xs=pC l e/\l.length<=acc.length+xs.length/\∀d∈l,bh d=false
 |[],acc,cur,h1,_=>⟨acc,0,rfl,by simp,h1⟩
 |x::xs,acc,cur,h1,h2=>by
  rw[rp]
  by_cases he:iZ p s cur x false
  ·rw[if_pos he]
   by_cases ha:kq cur (cN p x) x
   ·rw[if_pos ha]
    have hw:bh (d9 cur (cN p x) x)=false:=t9 h2
    obtain⟨l,e,g1,g2,g3⟩:=rT p s xs (acc++[d9 cur (cN p x) x]) (d9 cur (cN p x) x) (fun d hd=>by
     rcases List.mem_append.1 hd with hd|hd
     ·exact h1 d hd
     ·rw[List.mem_singleton] at hd;rw[hd];exact hw) hw
    refine⟨l,e,g1,?_,g3⟩
    rw[List.length_append,List.length_singleton] at g2
    rw[List.length_cons]
    omega
   ·rw[if_neg ha];exact⟨[],4,rfl,by simp,by simp⟩
  ·rw[if_neg he];exact⟨[],9,rfl,by simp,by simp⟩
theorem mB (acc:List ay) (d:ay):(acc++[d]).getD acc.length aX=d:=by
 rw[gD,List.getElem?_append_right (Nat.le_refl _),Nat.sub_self]
 rfl
end Go.Proofs.YtekmminpfhacpaaGreatDoor
