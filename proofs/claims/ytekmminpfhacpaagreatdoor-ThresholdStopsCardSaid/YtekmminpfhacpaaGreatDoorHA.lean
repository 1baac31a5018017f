import Derived.Test.YtekmminpfhacpaaGreatDoorGA
import Derived.Test.YtekmminpfhacpaaGreatDoorY1
set_option linter.unusedVariables false
set_option linter.unusedSimpArgs false
namespace Go.Proofs.YtekmminpfhacpaaGreatDoor
section
set_option maxRecDepth 100000
set_option maxHeartbeats 16000000
end
section
open Go.ChangeShapes Go.WideShapes Go.ChangeAt Go.RowKit
end
section
set_option maxRecDepth 100000
set_option maxHeartbeats 16000000
set_option maxHeartbeats 4000000
section
variable {p:an} {q:aE} {sch:List Int} {number:Int} {a:Co}
end
end
section
set_option maxRecDepth 100000
set_option maxHeartbeats 4000000
theorem getD_set_ne {l:List Int} {k j:Nat} (d:Int) (h:k≠j):(l.set k d).getD j 0=l.getD j 0:=by
 rw[gD,gD,List.getElem?_set_ne h]
theorem pe {p:an} {s:aC} {c:ay} (h:dk p s c):aJ p s=0:=by
 have:=h.sz
 unfold aJ
 rw[if_neg (fun y=>y h.val),if_neg (fun y=>y h.adm),if_neg (by omega)]
theorem vH {p:an} {s:aC} {c:ay} (h:dk p s c):bW p s c=0:=by
 unfold bW
 rw[if_neg (fun y=>y (pe h)),km,if_pos h.vc]
theorem FZ {l ms:List Int} (hl:∀j,0<=l.getD j 0/\l.getD j 0<=1000000) (hm:ms.length<=60):Dy l ms:=by
 intro k hk
 have:=fV (ms.take (k+1)) l 1000000 hl (ms.getD k 0).toNat
 have:(ms.take (k+1)).length<=60:=by rw[List.length_take];omega
 omega
theorem qF {c:ay} {r:bC} {x:cj} (hk:r.kind=1) (hi:0<=x.process/\x.process<c.states.length):(d9 c r x).states=c.states.set x.process.toNat r.dst:=
 (t8 (by simp) fun j hj=>by
  rw[b8]
  unfold Dx
  by_cases e:x.process.toNat=j
  ·rw[if_pos ⟨e,by omega⟩,if_pos (by omega)]
  ·rw[if_neg (fun h=>e h.1),if_neg (by omega),if_neg (by omega),if_neg (by omega)]).symm
section
variable (p:an) (q:aE) (sch:List Int) (x:List Int)
end
end
end Go.Proofs.YtekmminpfhacpaaGreatDoor
