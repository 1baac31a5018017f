import Derived.Test.YtfoplfpbjajljaaDoorFtC
set_option linter.unusedVariables false
set_option linter.unusedSimpArgs false
namespace Go.Proofs.YtfoplfpbjajljaaDoor
set_option maxRecDepth 100000
set_option maxHeartbeats 8000000
section
variable {p : Pro} {sch : List Int} {v : Vb}
end
def ordL (rs : List Rul) (ns : Nat) : List Int := (List.range ns).flatMap fun x : Nat => ((List.range rs.length).filter fun r => decide ((rs.getD r rul0).src = (x : Int))).map fun r : Nat => (r : Int)
end Go.Proofs.YtfoplfpbjajljaaDoor
