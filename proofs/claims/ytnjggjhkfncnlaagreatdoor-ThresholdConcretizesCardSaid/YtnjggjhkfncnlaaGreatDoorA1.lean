import Derived.Test.YtnjggjhkfncnlaaGreatDoorFP
import Derived.Test.YtnjggjhkfncnlaaGreatDoorMN
set_option linter.unusedVariables false
set_option linter.unusedSimpArgs false
namespace Go.Proofs.YtnjggjhkfncnlaaGreatDoor
set_option maxRecDepth 100000
set_option maxHeartbeats 16000000
theorem DF {c:aR} {r:bp} {x:dH} (hw:ct c=false):ct (iZ c r x)=false:=by
 have hc:=b8 hw
 have h1:(iZ c r x).sent.length=c.sent.length:=by unfold iZ;dsimp only;split<;>simp[ee]
 have h2:(iZ c r x).faulty.length=c.faulty.length:=by unfold iZ;dsimp only;split<;>simp[ee]
 have h3:(iZ c r x).states.length=c.states.length:=gN c r x
 have h4:(iZ c r x).shape.length=c.shape.length:=rfl
 unfold ct
 simp only[Bool.or_eq_false_iff,decide_eq_false_iff_not]
 omega
theorem yH {l ms:List Int} (hl:jC l 1048577) (h:HT l ms):jC (cu l ms) 1048577:=by
 have key:∀k,k<=ms.length->∀j,0<=(cu l (ms.take k)).getD j 0/\(cu l (ms.take k)).getD j 0<=1048576:=by
  intro k
  induction k with
  |zero=>intro _ j;exact jO hl j
  |succ k ih=>
   intro hk j
   have h1:=ih (by omega) j
   have h2:=ih (by omega) (ms.getD k 0).toNat
   have h3:=h k (by omega)
   rw[ie (by omega),c5] at h3⊢
   by_cases e:(ms.getD k 0).toNat=j/\(ms.getD k 0).toNat<(cu l (ms.take k)).length
   ·rw[if_pos ⟨rfl,e.2⟩] at h3
    rw[if_pos e]
    omega
   ·rw[if_neg e];exact h1
 intro j hj
 have:=key ms.length (Nat.le_refl _) j
 rw[List.take_length] at this
 omega
theorem gI.pto {p:au} {r:bp} (h:gI p r) (hk:r.kind=2\/r.kind=5):0<=r.pto/\r.pto<p.states.length:=by
 have:=h.kin
 unfold c7 at this
 rcases hk with hk|hk
 ·rw[if_neg (by omega),if_pos hk] at this
  exact mB (cF this (cL r.pto p.states.length) (by simp))
 ·rw[if_neg (by omega),if_neg (by omega),if_neg (by omega),if_neg (by omega)] at this
  exact mB (cF this (cL r.pto p.states.length) (by simp))
theorem gu.next {p:au} {s:bA} {c:aR} {x:dH} (h:gu p s c) (he:j6 p s c x false) (ha:ld c (p.rules.getD x.rule.toNat ar) x):gu p s (iZ c (p.rules.getD x.rule.toNat ar) x):=by
 obtain⟨hin,hen⟩:=he
 have hR:=dG h.val (i:=x.rule.toNat) (by omega)
 generalize p.rules.getD x.rule.toNat ar=r at hen hR ha⊢
 have hrd:=hR.read
 have hdst:=hR.dst
 have hv:=h.vc
 have hf:=tC h.val
 have hC:¬(p.fault=0/\(s.t≠0\/s.f≠0)):=h.adm.2.1
 have hlen:=hv.len
 have hcor:=hv.cor
 have h1:(iZ c r x).sent.length=c.sent.length:=by unfold iZ;dsimp only;split<;>simp[ee]
 have h2:(iZ c r x).faulty.length=c.faulty.length:=by unfold iZ;dsimp only;split<;>simp[ee]
 have h3:(iZ c r x).states.length=c.states.length:=gN c r x
 unfold ld at ha
 refine⟨h.big,DF h.wide,h.val,h.siz,h.sz,h.adm,⟨by rw[h3];exact hlen,fun j hj=>?_,hcor,by rw[h1];exact hv.snl,?_,by rw[h2];exact hv.fal,?_,?_,?_,hv.tre,hv.non⟩⟩
 ·have e:(iZ c r x).states.getD j 0=Gm c r x j:=aX _ _ _ (by rw[h3] at hj;exact hj)
  rw[e]
  rw[h3] at hj
  have hs:=hv.sta j hj
  unfold Gm
  by_cases e1:(j:Int)=x.process
  ·rw[if_pos e1];exact hdst
  ·rw[if_neg e1]
   by_cases e2:(r.kind=2\/r.kind=5)/\(j:Int)=x.partner
   ·rw[if_pos e2];exact hR.pto e2.1
   ·rw[if_neg e2]
    by_cases e3:r.kind=3
    ·rw[if_pos e3]
     obtain⟨g1,g2⟩:=hR.resp e3
     exact g2 _ (by omega)
    ·rw[if_neg e3];exact hs
 ·by_cases hc:x.process<c.correct
  ·rw[if_pos hc] at ha
   rw[r6 hc]
   exact yH hv.sen ha
  ·rw[r7 hc];exact hv.sen
 ·by_cases hc:x.process<c.correct
  ·rw[r6 hc];exact hv.fau
  ·rw[if_neg hc] at ha
   rw[r7 hc]
   have hw:qO p=1048576:=by
    unfold qO
    rw[if_pos]
    unfold iU at hlen
    by_cases e3:p.fault=3
    ·rw[if_pos e3] at hlen;omega
    ·rw[if_neg e3] at hlen;omega
   have:=hv.fau
   rw[hw] at this⊢
   exact yH this ha
 ·show 0<=(if r.write=-1 then c.value else r.write)
  have:=hv.va0
  split<;>omega
 ·show(if r.write=-1 then c.value else r.write)<1\/(if r.write=-1 then c.value else r.write)<p.values.length
  have:=hv.va1
  split<;>omega
theorem gu.vcon {p:au} {s:bA} {c:aR} (h:gu p s c):bK p s c=0:=by
 have hs:=h.sz
 have hz:bG p s=0:=by
  unfold bG
  rw[if_neg (by rw[h.val];omega),if_neg (fun hn=>hn h.adm),if_neg (by omega)]
 unfold bK
 rw[if_neg (by omega)]
 unfold pS
 rw[if_pos h.vc]
def mU (p:au) (x:dH):bp:=p.rules.getD x.rule.toNat ar
end Go.Proofs.YtnjggjhkfncnlaaGreatDoor
