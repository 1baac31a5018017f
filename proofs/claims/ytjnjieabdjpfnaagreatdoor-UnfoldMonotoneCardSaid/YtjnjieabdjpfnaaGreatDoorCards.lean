/-
  DERIVED. GIVEN WITH THE SEED: THE CARDS: each row of YtjnjieabdjpfnaaGreatDoorRows.lean that lists a variable, with what it lists TIED to the program's text (the seventh form; the later family's looks); each row that meets fmt, with fmt's text TOLD by the authors' own Lean function (tested against real Go, not proved from fmt's source: count such statements apart). THE CARD IS WHAT COUNTS. Prove the row's statement (the work); the ties are given (YtjnjieabdjpfnaaGreatDoorTie.lean); close each card by the builder's one call (the guide's Derived/Test/ToyasCard.lean, 'card_holds'). Laid BY PROGRAM, IN A SANDBOX (cutbox-door.mjs). By AI agents, Wed Nov 11 2026. No macro, syntax, notation, axiom, sorry.
-/
import Derived.Test.YtjnjieabdjpfnaaGreatDoorRows
import GoSem.ClaimSeven
namespace Go.Proofs.YtjnjieabdjpfnaaGreatDoor
namespace Rows

/-- THE TIED CARD OF 'familychecklaw03.UnfoldValidates'. -/
def unfoldValidatesCard : Claim7 := { stood := { row := unfoldValidatesRow, standIns := [], harness := (true, "5ad292f4d1b56101eedd81f022ddc6b34d41317e677ac2962d4b9457c587b6d8"), looks := false }, kinds := [], alts := [], laidByText := true, laidKinds := [.listed, .data], laidTests := true, laidLooks := .later }
def UnfoldValidatesCardSaid : Prop := Claim7.holds Tryz.pinned (.plain (OpenSpec.ofChange unfoldValidatesSpec)) unfoldValidatesCard

/-- THE TIED CARD OF 'familychecklaw03.UnfoldJudges'. -/
def unfoldJudgesCard : Claim7 := { stood := { row := unfoldJudgesRow, standIns := [], harness := (true, "5ad292f4d1b56101eedd81f022ddc6b34d41317e677ac2962d4b9457c587b6d8"), looks := false }, kinds := [], alts := [], laidByText := true, laidKinds := [.listed, .data], laidTests := true, laidLooks := .later }
def UnfoldJudgesCardSaid : Prop := Claim7.holds Tryz.pinned (.plain (OpenSpec.ofChange unfoldJudgesSpec)) unfoldJudgesCard

/-- THE TIED CARD OF 'familychecklaw03.UnfoldEnables'. -/
def unfoldEnablesCard : Claim7 := { stood := { row := unfoldEnablesRow, standIns := [], harness := (true, "5ad292f4d1b56101eedd81f022ddc6b34d41317e677ac2962d4b9457c587b6d8"), looks := false }, kinds := [], alts := [], laidByText := true, laidKinds := [.listed, .data], laidTests := true, laidLooks := .later }
def UnfoldEnablesCardSaid : Prop := Claim7.holds Tryz.pinned (.plain (OpenSpec.ofChange unfoldEnablesSpec)) unfoldEnablesCard

/-- THE TIED CARD OF 'familychecklaw03.UnfoldForces'. -/
def unfoldForcesCard : Claim7 := { stood := { row := unfoldForcesRow, standIns := [], harness := (true, "5ad292f4d1b56101eedd81f022ddc6b34d41317e677ac2962d4b9457c587b6d8"), looks := false }, kinds := [], alts := [], laidByText := true, laidKinds := [.listed, .data], laidTests := true, laidLooks := .later }
def UnfoldForcesCardSaid : Prop := Claim7.holds Tryz.pinned (.plain (OpenSpec.ofChange unfoldForcesSpec)) unfoldForcesCard

/-- THE TIED CARD OF 'familychecklaw03.UnfoldMonotone'. -/
def unfoldMonotoneCard : Claim7 := { stood := { row := unfoldMonotoneRow, standIns := [], harness := (true, "5ad292f4d1b56101eedd81f022ddc6b34d41317e677ac2962d4b9457c587b6d8"), looks := false }, kinds := [], alts := [], laidByText := true, laidKinds := [.listed, .data], laidTests := true, laidLooks := .later }
def UnfoldMonotoneCardSaid : Prop := Claim7.holds Tryz.pinned (.plain (OpenSpec.ofChange unfoldMonotoneSpec)) unfoldMonotoneCard

/-- THE TIED CARD OF 'familychecklaw03.UnfoldApplies'. -/
def unfoldAppliesCard : Claim7 := { stood := { row := unfoldAppliesRow, standIns := [], harness := (true, "5ad292f4d1b56101eedd81f022ddc6b34d41317e677ac2962d4b9457c587b6d8"), looks := false }, kinds := [], alts := [], laidByText := true, laidKinds := [.listed, .data], laidTests := true, laidLooks := .later }
def UnfoldAppliesCardSaid : Prop := Claim7.holds Tryz.pinned (.plain (OpenSpec.ofChange unfoldAppliesSpec)) unfoldAppliesCard

/-- THE TIED CARD OF 'familychecklaw03.UnfoldReplays'. -/
def unfoldReplaysCard : Claim7 := { stood := { row := unfoldReplaysRow, standIns := [], harness := (true, "5ad292f4d1b56101eedd81f022ddc6b34d41317e677ac2962d4b9457c587b6d8"), looks := false }, kinds := [], alts := [], laidByText := true, laidKinds := [.listed, .data], laidTests := true, laidLooks := .later }
def UnfoldReplaysCardSaid : Prop := Claim7.holds Tryz.pinned (.plain (OpenSpec.ofChange unfoldReplaysSpec)) unfoldReplaysCard

/-- THE TIED CARD OF 'familychecklaw03.UnfoldStarts'. -/
def unfoldStartsCard : Claim7 := { stood := { row := unfoldStartsRow, standIns := [], harness := (true, "5ad292f4d1b56101eedd81f022ddc6b34d41317e677ac2962d4b9457c587b6d8"), looks := false }, kinds := [], alts := [], laidByText := true, laidKinds := [.listed, .data], laidTests := true, laidLooks := .later }
def UnfoldStartsCardSaid : Prop := Claim7.holds Tryz.pinned (.plain (OpenSpec.ofChange unfoldStartsSpec)) unfoldStartsCard

/-- THE TIED CARD OF 'familychecklaw03.UnfoldStartsAll'. -/
def unfoldStartsAllCard : Claim7 := { stood := { row := unfoldStartsAllRow, standIns := [], harness := (true, "5ad292f4d1b56101eedd81f022ddc6b34d41317e677ac2962d4b9457c587b6d8"), looks := false }, kinds := [], alts := [], laidByText := true, laidKinds := [.listed, .data], laidTests := true, laidLooks := .later }
def UnfoldStartsAllCardSaid : Prop := Claim7.holds Tryz.pinned (.plain (OpenSpec.ofChange unfoldStartsAllSpec)) unfoldStartsAllCard

/-- THE TIED CARD OF 'familychecklaw03.UnfoldSteps'. -/
def unfoldStepsCard : Claim7 := { stood := { row := unfoldStepsRow, standIns := [], harness := (true, "5ad292f4d1b56101eedd81f022ddc6b34d41317e677ac2962d4b9457c587b6d8"), looks := false }, kinds := [], alts := [], laidByText := true, laidKinds := [.listed, .data], laidTests := true, laidLooks := .later }
def UnfoldStepsCardSaid : Prop := Claim7.holds Tryz.pinned (.plain (OpenSpec.ofChange unfoldStepsSpec)) unfoldStepsCard

/-- THE TIED CARD OF 'familychecklaw03.UnfoldViolates'. -/
def unfoldViolatesCard : Claim7 := { stood := { row := unfoldViolatesRow, standIns := [], harness := (true, "5ad292f4d1b56101eedd81f022ddc6b34d41317e677ac2962d4b9457c587b6d8"), looks := false }, kinds := [], alts := [], laidByText := true, laidKinds := [.listed, .data], laidTests := true, laidLooks := .later }
def UnfoldViolatesCardSaid : Prop := Claim7.holds Tryz.pinned (.plain (OpenSpec.ofChange unfoldViolatesSpec)) unfoldViolatesCard

/-- THE TIED CARD OF 'familychecklaw03.UnfoldCounts'. -/
def unfoldCountsCard : Claim7 := { stood := { row := unfoldCountsRow, standIns := [], harness := (true, "5ad292f4d1b56101eedd81f022ddc6b34d41317e677ac2962d4b9457c587b6d8"), looks := false }, kinds := [], alts := [], laidByText := true, laidKinds := [.listed, .data], laidTests := true, laidLooks := .later }
def UnfoldCountsCardSaid : Prop := Claim7.holds Tryz.pinned (.plain (OpenSpec.ofChange unfoldCountsSpec)) unfoldCountsCard

/-- THE TIED CARD OF 'familychecklaw03.UnfoldSymmetric'. -/
def unfoldSymmetricCard : Claim7 := { stood := { row := unfoldSymmetricRow, standIns := [], harness := (true, "5ad292f4d1b56101eedd81f022ddc6b34d41317e677ac2962d4b9457c587b6d8"), looks := false }, kinds := [], alts := [], laidByText := true, laidKinds := [.listed, .data], laidTests := true, laidLooks := .later }
def UnfoldSymmetricCardSaid : Prop := Claim7.holds Tryz.pinned (.plain (OpenSpec.ofChange unfoldSymmetricSpec)) unfoldSymmetricCard

/-- THE TIED CARD OF 'familychecklaw03.UnfoldLassos'. -/
def unfoldLassosCard : Claim7 := { stood := { row := unfoldLassosRow, standIns := [], harness := (true, "5ad292f4d1b56101eedd81f022ddc6b34d41317e677ac2962d4b9457c587b6d8"), looks := false }, kinds := [], alts := [], laidByText := true, laidKinds := [.listed, .data], laidTests := true, laidLooks := .later }
def UnfoldLassosCardSaid : Prop := Claim7.holds Tryz.pinned (.plain (OpenSpec.ofChange unfoldLassosSpec)) unfoldLassosCard

/-- THE TIED CARD OF 'familychecklaw03.UnfoldLassoTurns'. -/
def unfoldLassoTurnsCard : Claim7 := { stood := { row := unfoldLassoTurnsRow, standIns := [], harness := (true, "5ad292f4d1b56101eedd81f022ddc6b34d41317e677ac2962d4b9457c587b6d8"), looks := false }, kinds := [], alts := [], laidByText := true, laidKinds := [.listed, .data], laidTests := true, laidLooks := .later }
def UnfoldLassoTurnsCardSaid : Prop := Claim7.holds Tryz.pinned (.plain (OpenSpec.ofChange unfoldLassoTurnsSpec)) unfoldLassoTurnsCard

/-- THE SECOND FORM's CARD OF 'familychecklaw03.UnfoldValidates'. -/
def unfoldValidatesUptoCard : Claim7 := { stood := { row := unfoldValidatesUptoRow, standIns := [], harness := (true, "5ad292f4d1b56101eedd81f022ddc6b34d41317e677ac2962d4b9457c587b6d8"), looks := false }, kinds := [], alts := [], laidByText := true, laidKinds := [.listed, .data], laidTests := true, laidLooks := .later }
def UnfoldValidatesUptoCardSaid : Prop := Claim7.holds Tryz.pinned (.plain (OpenSpec.upto unfoldValidatesSpec)) unfoldValidatesUptoCard

/-- THE SECOND FORM's CARD OF 'familychecklaw03.UnfoldJudges'. -/
def unfoldJudgesUptoCard : Claim7 := { stood := { row := unfoldJudgesUptoRow, standIns := [], harness := (true, "5ad292f4d1b56101eedd81f022ddc6b34d41317e677ac2962d4b9457c587b6d8"), looks := false }, kinds := [], alts := [], laidByText := true, laidKinds := [.listed, .data], laidTests := true, laidLooks := .later }
def UnfoldJudgesUptoCardSaid : Prop := Claim7.holds Tryz.pinned (.plain (OpenSpec.upto unfoldJudgesSpec)) unfoldJudgesUptoCard

/-- THE SECOND FORM's CARD OF 'familychecklaw03.UnfoldEnables'. -/
def unfoldEnablesUptoCard : Claim7 := { stood := { row := unfoldEnablesUptoRow, standIns := [], harness := (true, "5ad292f4d1b56101eedd81f022ddc6b34d41317e677ac2962d4b9457c587b6d8"), looks := false }, kinds := [], alts := [], laidByText := true, laidKinds := [.listed, .data], laidTests := true, laidLooks := .later }
def UnfoldEnablesUptoCardSaid : Prop := Claim7.holds Tryz.pinned (.plain (OpenSpec.upto unfoldEnablesSpec)) unfoldEnablesUptoCard

/-- THE SECOND FORM's CARD OF 'familychecklaw03.UnfoldForces'. -/
def unfoldForcesUptoCard : Claim7 := { stood := { row := unfoldForcesUptoRow, standIns := [], harness := (true, "5ad292f4d1b56101eedd81f022ddc6b34d41317e677ac2962d4b9457c587b6d8"), looks := false }, kinds := [], alts := [], laidByText := true, laidKinds := [.listed, .data], laidTests := true, laidLooks := .later }
def UnfoldForcesUptoCardSaid : Prop := Claim7.holds Tryz.pinned (.plain (OpenSpec.upto unfoldForcesSpec)) unfoldForcesUptoCard

/-- THE SECOND FORM's CARD OF 'familychecklaw03.UnfoldMonotone'. -/
def unfoldMonotoneUptoCard : Claim7 := { stood := { row := unfoldMonotoneUptoRow, standIns := [], harness := (true, "5ad292f4d1b56101eedd81f022ddc6b34d41317e677ac2962d4b9457c587b6d8"), looks := false }, kinds := [], alts := [], laidByText := true, laidKinds := [.listed, .data], laidTests := true, laidLooks := .later }
def UnfoldMonotoneUptoCardSaid : Prop := Claim7.holds Tryz.pinned (.plain (OpenSpec.upto unfoldMonotoneSpec)) unfoldMonotoneUptoCard

/-- THE SECOND FORM's CARD OF 'familychecklaw03.UnfoldApplies'. -/
def unfoldAppliesUptoCard : Claim7 := { stood := { row := unfoldAppliesUptoRow, standIns := [], harness := (true, "5ad292f4d1b56101eedd81f022ddc6b34d41317e677ac2962d4b9457c587b6d8"), looks := false }, kinds := [], alts := [], laidByText := true, laidKinds := [.listed, .data], laidTests := true, laidLooks := .later }
def UnfoldAppliesUptoCardSaid : Prop := Claim7.holds Tryz.pinned (.plain (OpenSpec.upto unfoldAppliesSpec)) unfoldAppliesUptoCard

/-- THE SECOND FORM's CARD OF 'familychecklaw03.UnfoldReplays'. -/
def unfoldReplaysUptoCard : Claim7 := { stood := { row := unfoldReplaysUptoRow, standIns := [], harness := (true, "5ad292f4d1b56101eedd81f022ddc6b34d41317e677ac2962d4b9457c587b6d8"), looks := false }, kinds := [], alts := [], laidByText := true, laidKinds := [.listed, .data], laidTests := true, laidLooks := .later }
def UnfoldReplaysUptoCardSaid : Prop := Claim7.holds Tryz.pinned (.plain (OpenSpec.upto unfoldReplaysSpec)) unfoldReplaysUptoCard

/-- THE SECOND FORM's CARD OF 'familychecklaw03.UnfoldStarts'. -/
def unfoldStartsUptoCard : Claim7 := { stood := { row := unfoldStartsUptoRow, standIns := [], harness := (true, "5ad292f4d1b56101eedd81f022ddc6b34d41317e677ac2962d4b9457c587b6d8"), looks := false }, kinds := [], alts := [], laidByText := true, laidKinds := [.listed, .data], laidTests := true, laidLooks := .later }
def UnfoldStartsUptoCardSaid : Prop := Claim7.holds Tryz.pinned (.plain (OpenSpec.upto unfoldStartsSpec)) unfoldStartsUptoCard

/-- THE SECOND FORM's CARD OF 'familychecklaw03.UnfoldStartsAll'. -/
def unfoldStartsAllUptoCard : Claim7 := { stood := { row := unfoldStartsAllUptoRow, standIns := [], harness := (true, "5ad292f4d1b56101eedd81f022ddc6b34d41317e677ac2962d4b9457c587b6d8"), looks := false }, kinds := [], alts := [], laidByText := true, laidKinds := [.listed, .data], laidTests := true, laidLooks := .later }
def UnfoldStartsAllUptoCardSaid : Prop := Claim7.holds Tryz.pinned (.plain (OpenSpec.upto unfoldStartsAllSpec)) unfoldStartsAllUptoCard

/-- THE SECOND FORM's CARD OF 'familychecklaw03.UnfoldSteps'. -/
def unfoldStepsUptoCard : Claim7 := { stood := { row := unfoldStepsUptoRow, standIns := [], harness := (true, "5ad292f4d1b56101eedd81f022ddc6b34d41317e677ac2962d4b9457c587b6d8"), looks := false }, kinds := [], alts := [], laidByText := true, laidKinds := [.listed, .data], laidTests := true, laidLooks := .later }
def UnfoldStepsUptoCardSaid : Prop := Claim7.holds Tryz.pinned (.plain (OpenSpec.upto unfoldStepsSpec)) unfoldStepsUptoCard

/-- THE SECOND FORM's CARD OF 'familychecklaw03.UnfoldViolates'. -/
def unfoldViolatesUptoCard : Claim7 := { stood := { row := unfoldViolatesUptoRow, standIns := [], harness := (true, "5ad292f4d1b56101eedd81f022ddc6b34d41317e677ac2962d4b9457c587b6d8"), looks := false }, kinds := [], alts := [], laidByText := true, laidKinds := [.listed, .data], laidTests := true, laidLooks := .later }
def UnfoldViolatesUptoCardSaid : Prop := Claim7.holds Tryz.pinned (.plain (OpenSpec.upto unfoldViolatesSpec)) unfoldViolatesUptoCard

/-- THE SECOND FORM's CARD OF 'familychecklaw03.UnfoldCounts'. -/
def unfoldCountsUptoCard : Claim7 := { stood := { row := unfoldCountsUptoRow, standIns := [], harness := (true, "5ad292f4d1b56101eedd81f022ddc6b34d41317e677ac2962d4b9457c587b6d8"), looks := false }, kinds := [], alts := [], laidByText := true, laidKinds := [.listed, .data], laidTests := true, laidLooks := .later }
def UnfoldCountsUptoCardSaid : Prop := Claim7.holds Tryz.pinned (.plain (OpenSpec.upto unfoldCountsSpec)) unfoldCountsUptoCard

/-- THE SECOND FORM's CARD OF 'familychecklaw03.UnfoldSymmetric'. -/
def unfoldSymmetricUptoCard : Claim7 := { stood := { row := unfoldSymmetricUptoRow, standIns := [], harness := (true, "5ad292f4d1b56101eedd81f022ddc6b34d41317e677ac2962d4b9457c587b6d8"), looks := false }, kinds := [], alts := [], laidByText := true, laidKinds := [.listed, .data], laidTests := true, laidLooks := .later }
def UnfoldSymmetricUptoCardSaid : Prop := Claim7.holds Tryz.pinned (.plain (OpenSpec.upto unfoldSymmetricSpec)) unfoldSymmetricUptoCard

/-- THE SECOND FORM's CARD OF 'familychecklaw03.UnfoldLassos'. -/
def unfoldLassosUptoCard : Claim7 := { stood := { row := unfoldLassosUptoRow, standIns := [], harness := (true, "5ad292f4d1b56101eedd81f022ddc6b34d41317e677ac2962d4b9457c587b6d8"), looks := false }, kinds := [], alts := [], laidByText := true, laidKinds := [.listed, .data], laidTests := true, laidLooks := .later }
def UnfoldLassosUptoCardSaid : Prop := Claim7.holds Tryz.pinned (.plain (OpenSpec.upto unfoldLassosSpec)) unfoldLassosUptoCard

/-- THE SECOND FORM's CARD OF 'familychecklaw03.UnfoldLassoTurns'. -/
def unfoldLassoTurnsUptoCard : Claim7 := { stood := { row := unfoldLassoTurnsUptoRow, standIns := [], harness := (true, "5ad292f4d1b56101eedd81f022ddc6b34d41317e677ac2962d4b9457c587b6d8"), looks := false }, kinds := [], alts := [], laidByText := true, laidKinds := [.listed, .data], laidTests := true, laidLooks := .later }
def UnfoldLassoTurnsUptoCardSaid : Prop := Claim7.holds Tryz.pinned (.plain (OpenSpec.upto unfoldLassoTurnsSpec)) unfoldLassoTurnsUptoCard
end Rows
end Go.Proofs.YtjnjieabdjpfnaaGreatDoor
