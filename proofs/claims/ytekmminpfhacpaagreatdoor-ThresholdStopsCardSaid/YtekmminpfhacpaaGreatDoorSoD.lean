import Derived.Test.YtekmminpfhacpaaGreatDoorS1
import Derived.Test.YtekmminpfhacpaaGreatDoorPD
import Derived.Test.YtekmminpfhacpaaGreatDoorX1
set_option linter.unusedVariables false
set_option linter.unusedSimpArgs false
namespace Go.Proofs.YtekmminpfhacpaaGreatDoor
set_option maxRecDepth 100000
set_option maxHeartbeats 16000000
theorem yv (p:an) (q:aE) (s:aC) (r:Rn):(∃e,e≠0/\Gp p q s r=([],[],e))\/(lR p q s=0/\DN p q s r/\Gp p q s r=((pD p s r).1,(bI p q (pD p s r).1).map (IQ s r (pD p s r).2),0)):=by
 unfold Gp
 by_cases h1:lR p q s≠0
 ·rw[if_pos h1];exact .inl ⟨_,h1,rfl⟩
 rw[if_neg h1]
 by_cases h2:¬DM p q s r
 ·rw[if_pos h2];exact .inl ⟨10,by decide,rfl⟩
 rw[if_neg h2]
 have h1:=Classical.not_not.1 h1
 exact .inr ⟨h1,Ev h1 (Classical.not_not.1 h2),rfl⟩
end Go.Proofs.YtekmminpfhacpaaGreatDoor
