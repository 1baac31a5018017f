
/-
  Which steps are enabled in a valid configuration, by the document's answer.
-/
import Derived.Test.YtgbicnldbhfhiaaDoorFoK
set_option linter.unusedVariables false
set_option linter.unusedSimpArgs false
namespace Go.Proofs.YtgbicnldbhfhiaaDoor
set_option maxRecDepth 100000
set_option maxHeartbeats 16000000

end Go.Proofs.YtgbicnldbhfhiaaDoor
