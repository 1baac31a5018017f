import Derived.Test.YtfoplfpbjajljaaDoorFtB
set_option linter.unusedVariables false
set_option linter.unusedSimpArgs false
namespace Go.Proofs.YtfoplfpbjajljaaDoor
set_option maxRecDepth 100000
set_option maxHeartbeats 16000000
def clsT (p : Pro) : AV → Prop := fun u => ∃ b c d e : Bool, u = .tup [.agg [.bool (decide (thrB p)), .bool b, .bool c, .bool d, .bool e], .int .i64 0]
end Go.Proofs.YtfoplfpbjajljaaDoor
