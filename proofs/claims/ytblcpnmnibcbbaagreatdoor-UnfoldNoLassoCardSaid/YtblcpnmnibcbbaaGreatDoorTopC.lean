import Derived.Test.YtblcpnmnibcbbaaGreatDoorM4
import Derived.Test.YtblcpnmnibcbbaaGreatDoorTie
import Derived.Test.YtblcpnmnibcbbaaGreatDoorCards
import Derived.LaidMore
import Derived.Stop.Joined
import Derived.SevenTiedAt
set_option linter.unusedVariables false
set_option linter.unusedSimpArgs false
namespace Go.Proofs.YtblcpnmnibcbbaaGreatDoor
open Go.ChangeShapes Go.WideShapes Go.ChangeAt Go.RowKit
theorem own:ownKnob Tryz.prog.godebug=none:=by kernel_rfl
set_option maxRecDepth 100000
end Go.Proofs.YtblcpnmnibcbbaaGreatDoor
