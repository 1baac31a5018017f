import Derived.Test.YtekmminpfhacpaaGreatDoorFP
set_option linter.unusedVariables false
set_option linter.unusedSimpArgs false
namespace Go.Proofs.YtekmminpfhacpaaGreatDoor
set_option maxRecDepth 100000
set_option maxHeartbeats 16000000
theorem Ho {c:ct} {r:cf} {x:jk} (hw:vB c=false):vB (ub c r x)=false:=by
 have hc:=JC hw
 have h1:(ub c r x).sent.length=c.sent.length:=by unfold ub;dsimp only;split<;>simp[kE]
 have h2:(ub c r x).faulty.length=c.faulty.length:=by unfold ub;dsimp only;split<;>simp[kE]
 have h3:(ub c r x).states.length=c.states.length:=C5 c r x
 have h4:(ub c r x).shape.length=c.shape.length:=rfl
 unfold vB
 simp only[Bool.or_eq_false_iff,decide_eq_false_iff_not]
 omega
theorem C6 {l ms:List Int} (hl:rE l 1048577) (h:MG l ms):rE (eh l ms) 1048577:=by
 have key:∀k,k<=ms.length->∀j,0<=(eh l (ms.take k)).getD j 0/\(eh l (ms.take k)).getD j 0<=1048576:=by
  intro k
  induction k with
  |zero=>intro _ j;exact Kc hl j
  |succ k ih=>
   intro hk j
   have h1:=ih (by omega) j
   have h2:=ih (by omega) (ms.getD k 0).toNat
   have h3:=h k (by omega)
   rw[Hn (by omega),yW] at h3⊢
   by_cases e:(ms.getD k 0).toNat=j/\(ms.getD k 0).toNat<(eh l (ms.take k)).length
   ·rw[if_pos ⟨rfl,e.2⟩] at h3
    rw[if_pos e]
    omega
   ·rw[if_neg e];exact h1
 intro j hj
 have:=key ms.length (Nat.le_refl _) j
 rw[List.take_length] at this
 omega
theorem kz.pto {p:av} {r:cf} (h:kz p r) (hk:r.kind=2\/r.kind=5):0<=r.pto/\r.pto<p.states.length:=by
 have:=h.kin
 unfold dN at this
 rcases hk with hk|hk
 ·rw[if_neg (by omega),if_pos hk] at this
  exact rU (dQ this (dA r.pto p.states.length) (by simp))
 ·rw[if_neg (by omega),if_neg (by omega),if_neg (by omega),if_neg (by omega)] at this
  exact rU (dQ this (dA r.pto p.states.length) (by simp))
theorem w8.next {p:av} {s:dV} {c:ct} {x:jk} (h:w8 p s c) (he:Oo p s c x false) (ha:OL c (p.rules.getD x.rule.toNat ax) x):w8 p s (ub c (p.rules.getD x.rule.toNat ax) x):=by
 obtain⟨hin,hen⟩:=he
 have hR:=tG h.val (i:=x.rule.toNat) (by omega)
 generalize p.rules.getD x.rule.toNat ax=r at hen hR ha⊢
 have hrd:=hR.read
 have hdst:=hR.dst
 have hv:=h.vc
 have hf:=xz h.val
 have hC:¬(p.fault=0/\(s.t≠0\/s.f≠0)):=h.adm.2.1
 have hlen:=hv.len
 have hcor:=hv.cor
 have h1:(ub c r x).sent.length=c.sent.length:=by unfold ub;dsimp only;split<;>simp[kE]
 have h2:(ub c r x).faulty.length=c.faulty.length:=by unfold ub;dsimp only;split<;>simp[kE]
 have h3:(ub c r x).states.length=c.states.length:=C5 c r x
 unfold OL at ha
 refine⟨h.big,Ho h.wide,h.val,h.siz,h.sz,h.adm,⟨by rw[h3];exact hlen,fun j hj=>?_,hcor,by rw[h1];exact hv.snl,?_,by rw[h2];exact hv.fal,?_,?_,?_,hv.tre,hv.non⟩⟩
 ·have e:(ub c r x).states.getD j 0=OK c r x j:=tu _ _ _ (by rw[h3] at hj;exact hj)
  rw[e]
  rw[h3] at hj
  have hs:=hv.sta j hj
  unfold OK
  by_cases e1:(j:Int)=x.process
  ·rw[if_pos e1];exact hdst
  ·rw[if_neg e1]
   by_cases e2:(r.kind=2\/r.kind=5)/\(j:Int)=x.partner
   ·rw[if_pos e2];exact hR.pto e2.1
   ·rw[if_neg e2]
    by_cases e3:r.kind=3
    ·rw[if_pos e3]
     obtain⟨g1,g2⟩:=hR.resp e3
     exact g2 _ (by omega)
    ·rw[if_neg e3];exact hs
 ·by_cases hc:x.process<c.correct
  ·rw[if_pos hc] at ha
   rw[KZ hc]
   exact C6 hv.sen ha
  ·rw[K1 hc];exact hv.sen
 ·by_cases hc:x.process<c.correct
  ·rw[KZ hc];exact hv.fau
  ·rw[if_neg hc] at ha
   rw[K1 hc]
   have hw:Od p=1048576:=by
    unfold Od
    rw[if_pos]
    unfold Ek at hlen
    by_cases e3:p.fault=3
    ·rw[if_pos e3] at hlen;omega
    ·rw[if_neg e3] at hlen;omega
   have:=hv.fau
   rw[hw] at this⊢
   exact C6 this ha
 ·show 0<=(if r.write=-1 then c.value else r.write)
  have:=hv.va0
  split<;>omega
 ·show(if r.write=-1 then c.value else r.write)<1\/(if r.write=-1 then c.value else r.write)<p.values.length
  have:=hv.va1
  split<;>omega
def kF (p:av) (x:jk):cf:=p.rules.getD x.rule.toNat ax
end Go.Proofs.YtekmminpfhacpaaGreatDoor
