import Derived.Test.YtekmminpfhacpaaGreatDoorM7
set_option linter.unusedVariables false
set_option linter.unusedSimpArgs false
namespace Go.Proofs.YtekmminpfhacpaaGreatDoor
set_option maxRecDepth 100000
set_option maxHeartbeats 16000000
theorem KZ {c:ct} {r:cf} {x:jk} (h:x.process<c.correct):ub c r x=⟨c.shape,NF c r x,c.correct,eh c.sent r.send,c.faulty,if r.write=-1 then c.value else r.write⟩:=by
 unfold ub;rw[if_pos h,if_pos h]
theorem K1 {c:ct} {r:cf} {x:jk} (h:¬x.process<c.correct):ub c r x=⟨c.shape,NF c r x,c.correct,c.sent,eh c.faulty r.send,if r.write=-1 then c.value else r.write⟩:=by
 unfold ub;rw[if_neg h,if_neg h]
end Go.Proofs.YtekmminpfhacpaaGreatDoor
