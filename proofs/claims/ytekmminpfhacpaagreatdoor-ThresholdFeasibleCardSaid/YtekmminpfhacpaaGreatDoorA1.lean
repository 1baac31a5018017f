import Derived.Test.YtekmminpfhacpaaGreatDoorFP
set_option linter.unusedVariables false
set_option linter.unusedSimpArgs false
namespace Go.Proofs.YtekmminpfhacpaaGreatDoor
set_option maxRecDepth 100000
set_option maxHeartbeats 16000000
theorem zy {c:aD} {r:bE} {x:bX} (hw:dA c=false):dA (fQ c r x)=false:=by
 have hc:=eY hw
 have h1:(fQ c r x).sent.length=c.sent.length:=by unfold fQ;dsimp only;split<;>simp[e8]
 have h2:(fQ c r x).faulty.length=c.faulty.length:=by unfold fQ;dsimp only;split<;>simp[e8]
 have h3:(fQ c r x).states.length=c.states.length:=iU c r x
 have h4:(fQ c r x).shape.length=c.shape.length:=rfl
 unfold dA
 simp only[Bool.or_eq_false_iff,decide_eq_false_iff_not]
 omega
theorem De {l ms:List Int} (hl:qA l 1048577) (h:Lu l ms):qA (bP l ms) 1048577:=by
 have key:∀k,k<=ms.length->∀j,0<=(bP l (ms.take k)).getD j 0/\(bP l (ms.take k)).getD j 0<=1048576:=by
  intro k
  induction k with
  |zero=>intro _ j;exact xt hl j
  |succ k ih=>
   intro hk j
   have h1:=ih (by omega) j
   have h2:=ih (by omega) (ms.getD k 0).toNat
   have h3:=h k (by omega)
   rw[tZ (by omega),dU] at h3⊢
   by_cases e:(ms.getD k 0).toNat=j/\(ms.getD k 0).toNat<(bP l (ms.take k)).length
   ·rw[if_pos ⟨rfl,e.2⟩] at h3
    rw[if_pos e]
    omega
   ·rw[if_neg e];exact h1
 intro j hj
 have:=key ms.length (Nat.le_refl _) j
 rw[List.take_length] at this
 omega
theorem il.pto {p:ap} {r:bE} (h:il p r) (hk:r.kind=2\/r.kind=5):0<=r.pto/\r.pto<p.states.length:=by
 have:=h.kin
 unfold fg at this
 rcases hk with hk|hk
 ·rw[if_neg (by omega),if_pos hk] at this
  exact pq (cz this (gO r.pto p.states.length) (by simp))
 ·rw[if_neg (by omega),if_neg (by omega),if_neg (by omega),if_neg (by omega)] at this
  exact pq (cz this (gO r.pto p.states.length) (by simp))
theorem fp.next {p:ap} {s:aN} {c:aD} {x:bX} (h:fp p s c) (he:qc p s c x false) (ha:qe c (p.rules.getD x.rule.toNat au) x):fp p s (fQ c (p.rules.getD x.rule.toNat au) x):=by
 obtain⟨hin,hen⟩:=he
 have hR:=dK h.val (i:=x.rule.toNat) (by omega)
 generalize p.rules.getD x.rule.toNat au=r at hen hR ha⊢
 have hrd:=hR.read
 have hdst:=hR.dst
 have hv:=h.vc
 have hf:=xu h.val
 have hC:¬(p.fault=0/\(s.t≠0\/s.f≠0)):=h.adm.2.1
 have hlen:=hv.len
 have hcor:=hv.cor
 have h1:(fQ c r x).sent.length=c.sent.length:=by unfold fQ;dsimp only;split<;>simp[e8]
 have h2:(fQ c r x).faulty.length=c.faulty.length:=by unfold fQ;dsimp only;split<;>simp[e8]
 have h3:(fQ c r x).states.length=c.states.length:=iU c r x
 unfold qe at ha
 refine⟨h.big,zy h.wide,h.val,h.siz,h.sz,h.adm,⟨by rw[h3];exact hlen,fun j hj=>?_,hcor,by rw[h1];exact hv.snl,?_,by rw[h2];exact hv.fal,?_,?_,?_,hv.tre,hv.non⟩⟩
 ·have e:(fQ c r x).states.getD j 0=ON c r x j:=aR _ _ _ (by rw[h3] at hj;exact hj)
  rw[e]
  rw[h3] at hj
  have hs:=hv.sta j hj
  unfold ON
  by_cases e1:(j:Int)=x.process
  ·rw[if_pos e1];exact hdst
  ·rw[if_neg e1]
   by_cases e2:(r.kind=2\/r.kind=5)/\(j:Int)=x.partner
   ·rw[if_pos e2];exact hR.pto e2.1
   ·rw[if_neg e2]
    by_cases e3:r.kind=3
    ·rw[if_pos e3]
     obtain⟨g1,g2⟩:=hR.resp e3
     exact g2 _ (by omega)
    ·rw[if_neg e3];exact hs
 ·by_cases hc:x.process<c.correct
  ·rw[if_pos hc] at ha
   rw[Dc hc]
   exact De hv.sen ha
  ·rw[Dd hc];exact hv.sen
 ·by_cases hc:x.process<c.correct
  ·rw[Dc hc];exact hv.fau
  ·rw[if_neg hc] at ha
   rw[Dd hc]
   have hw:Bh p=1048576:=by
    unfold Bh
    rw[if_pos]
    unfold iy at hlen
    by_cases e3:p.fault=3
    ·rw[if_pos e3] at hlen;omega
    ·rw[if_neg e3] at hlen;omega
   have:=hv.fau
   rw[hw] at this⊢
   exact De this ha
 ·show 0<=(if r.write=-1 then c.value else r.write)
  have:=hv.va0
  split<;>omega
 ·show(if r.write=-1 then c.value else r.write)<1\/(if r.write=-1 then c.value else r.write)<p.values.length
  have:=hv.va1
  split<;>omega
theorem fp.vcon {p:ap} {s:aN} {c:aD} (h:fp p s c):du p s c=0:=by
 have hs:=h.sz
 have hz:dV p s=0:=by
  unfold dV
  rw[if_neg (by rw[h.val];omega),if_neg (fun hn=>hn h.adm),if_neg (by omega)]
 unfold du
 rw[if_neg (by omega)]
 unfold wU
 rw[if_pos h.vc]
def cQ (p:ap) (x:bX):bE:=p.rules.getD x.rule.toNat au
noncomputable def rp (p:ap) (s:aN):List aD->aD->List bX->AV
 |acc,_,[]=>Ib acc 0
 |acc,cur,x::xs=>if qc p s cur x false then(if qe cur (cQ p x) x then rp p s (acc++[fQ cur (cQ p x) x]) (fQ cur (cQ p x) x) xs else Ib [] 4) else Ib [] 9
theorem QK {l:List bX} {k:Nat} (h:k<l.length):l.drop k=l.getD k cX::l.drop (k+1):=by
 rw[List.drop_eq_getElem_cons h,gD,gL h]
 rfl
theorem xw (p:ap) (s:aN):∀(xs:List bX) (acc:List aD) (cur:aD),(∀d∈acc,dA d=false)->dA cur=false->∃l e,rp p s acc cur xs=Ib l e/\l.length<=acc.length+xs.length/\∀d∈l,dA d=false
 |[],acc,cur,h1,_=>⟨acc,0,rfl,by simp,h1⟩
 |x::xs,acc,cur,h1,h2=>by
  rw[rp]
  by_cases he:qc p s cur x false
  ·rw[if_pos he]
   by_cases ha:qe cur (cQ p x) x
   ·rw[if_pos ha]
    have hw:dA (fQ cur (cQ p x) x)=false:=zy h2
    obtain⟨l,e,g1,g2,g3⟩:=xw p s xs (acc++[fQ cur (cQ p x) x]) (fQ cur (cQ p x) x) (fun d hd=>by
     rcases List.mem_append.1 hd with hd|hd
     ·exact h1 d hd
     ·rw[List.mem_singleton] at hd;rw[hd];exact hw) hw
    refine⟨l,e,g1,?_,g3⟩
    rw[List.length_append,List.length_singleton] at g2
    rw[List.length_cons]
    omega
   ·rw[if_neg ha];exact⟨[],4,rfl,by simp,by simp⟩
  ·rw[if_neg he];exact⟨[],9,rfl,by simp,by simp⟩
theorem E9 (acc:List aD) (d:aD):(acc++[d]).getD acc.length cf=d:=by
 rw[gD,List.getElem?_append_right (Nat.le_refl _),Nat.sub_self]
 rfl
end Go.Proofs.YtekmminpfhacpaaGreatDoor
