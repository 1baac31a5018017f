/-
  DERIVED. GIVEN WITH THE SEED: THE CARDS: each row of YtekmminpfhacpaaGreatDoorRows.lean that lists a variable, with what it lists TIED to the program's text (the seventh form; the later family's looks); each row that meets fmt, with fmt's text TOLD by the authors' own Lean function (tested against real Go, not proved from fmt's source: count such statements apart). THE CARD IS WHAT COUNTS. Prove the row's statement (the work); the ties are given (YtekmminpfhacpaaGreatDoorTie.lean); close each card by the builder's one call (the guide's Derived/Test/ToyasCard.lean, 'card_holds'). Laid BY PROGRAM, IN A SANDBOX (cutbox-door.mjs). By AI agents, Wed Nov 11 2026. No macro, syntax, notation, axiom, sorry.
-/
import Derived.Test.YtekmminpfhacpaaGreatDoorRows
import GoSem.ClaimSeven
namespace Go.Proofs.YtekmminpfhacpaaGreatDoor
namespace Rows

/-- THE TIED CARD OF 'familychecklaw04.ThresholdProves'. -/
def thresholdProvesCard : Claim7 := { stood := { row := thresholdProvesRow, standIns := [], harness := (true, "56e3e5356a3dba5896033622894f7797520069dba051af286d1588fd02e584fe"), looks := false }, kinds := [], alts := [], laidByText := true, laidKinds := [.listed, .data], laidTests := true, laidLooks := .later }
def ThresholdProvesCardSaid : Prop := Claim7.holds Tryz.pinned (.plain (OpenSpec.ofChange thresholdProvesSpec)) thresholdProvesCard

/-- THE TIED CARD OF 'familychecklaw04.ThresholdStops'. -/
def thresholdStopsCard : Claim7 := { stood := { row := thresholdStopsRow, standIns := [], harness := (true, "56e3e5356a3dba5896033622894f7797520069dba051af286d1588fd02e584fe"), looks := false }, kinds := [], alts := [], laidByText := true, laidKinds := [.listed, .data], laidTests := true, laidLooks := .later }
def ThresholdStopsCardSaid : Prop := Claim7.holds Tryz.pinned (.plain (OpenSpec.ofChange thresholdStopsSpec)) thresholdStopsCard

/-- THE TIED CARD OF 'familychecklaw04.ThresholdSolutions'. -/
def thresholdSolutionsCard : Claim7 := { stood := { row := thresholdSolutionsRow, standIns := [], harness := (true, "56e3e5356a3dba5896033622894f7797520069dba051af286d1588fd02e584fe"), looks := false }, kinds := [], alts := [], laidByText := true, laidKinds := [.listed, .data], laidTests := true, laidLooks := .later }
def ThresholdSolutionsCardSaid : Prop := Claim7.holds Tryz.pinned (.plain (OpenSpec.ofChange thresholdSolutionsSpec)) thresholdSolutionsCard

/-- THE TIED CARD OF 'familychecklaw04.ThresholdRuns'. -/
def thresholdRunsCard : Claim7 := { stood := { row := thresholdRunsRow, standIns := [], harness := (true, "56e3e5356a3dba5896033622894f7797520069dba051af286d1588fd02e584fe"), looks := false }, kinds := [], alts := [], laidByText := true, laidKinds := [.listed, .data], laidTests := true, laidLooks := .later }
def ThresholdRunsCardSaid : Prop := Claim7.holds Tryz.pinned (.plain (OpenSpec.ofChange thresholdRunsSpec)) thresholdRunsCard

/-- THE TIED CARD OF 'familychecklaw04.ThresholdFeasible'. -/
def thresholdFeasibleCard : Claim7 := { stood := { row := thresholdFeasibleRow, standIns := [], harness := (true, "56e3e5356a3dba5896033622894f7797520069dba051af286d1588fd02e584fe"), looks := false }, kinds := [], alts := [], laidByText := true, laidKinds := [.listed, .data], laidTests := true, laidLooks := .later }
def ThresholdFeasibleCardSaid : Prop := Claim7.holds Tryz.pinned (.plain (OpenSpec.ofChange thresholdFeasibleSpec)) thresholdFeasibleCard

/-- THE TIED CARD OF 'familychecklaw04.ThresholdReorders'. -/
def thresholdReordersCard : Claim7 := { stood := { row := thresholdReordersRow, standIns := [], harness := (true, "56e3e5356a3dba5896033622894f7797520069dba051af286d1588fd02e584fe"), looks := false }, kinds := [], alts := [], laidByText := true, laidKinds := [.listed, .data], laidTests := true, laidLooks := .later }
def ThresholdReordersCardSaid : Prop := Claim7.holds Tryz.pinned (.plain (OpenSpec.ofChange thresholdReordersSpec)) thresholdReordersCard

/-- THE SECOND FORM's CARD OF 'familychecklaw04.ThresholdProves'. -/
def thresholdProvesUptoCard : Claim7 := { stood := { row := thresholdProvesUptoRow, standIns := [], harness := (true, "56e3e5356a3dba5896033622894f7797520069dba051af286d1588fd02e584fe"), looks := false }, kinds := [], alts := [], laidByText := true, laidKinds := [.listed, .data], laidTests := true, laidLooks := .later }
def ThresholdProvesUptoCardSaid : Prop := Claim7.holds Tryz.pinned (.plain (OpenSpec.upto thresholdProvesSpec)) thresholdProvesUptoCard

/-- THE SECOND FORM's CARD OF 'familychecklaw04.ThresholdStops'. -/
def thresholdStopsUptoCard : Claim7 := { stood := { row := thresholdStopsUptoRow, standIns := [], harness := (true, "56e3e5356a3dba5896033622894f7797520069dba051af286d1588fd02e584fe"), looks := false }, kinds := [], alts := [], laidByText := true, laidKinds := [.listed, .data], laidTests := true, laidLooks := .later }
def ThresholdStopsUptoCardSaid : Prop := Claim7.holds Tryz.pinned (.plain (OpenSpec.upto thresholdStopsSpec)) thresholdStopsUptoCard

/-- THE SECOND FORM's CARD OF 'familychecklaw04.ThresholdSolutions'. -/
def thresholdSolutionsUptoCard : Claim7 := { stood := { row := thresholdSolutionsUptoRow, standIns := [], harness := (true, "56e3e5356a3dba5896033622894f7797520069dba051af286d1588fd02e584fe"), looks := false }, kinds := [], alts := [], laidByText := true, laidKinds := [.listed, .data], laidTests := true, laidLooks := .later }
def ThresholdSolutionsUptoCardSaid : Prop := Claim7.holds Tryz.pinned (.plain (OpenSpec.upto thresholdSolutionsSpec)) thresholdSolutionsUptoCard

/-- THE SECOND FORM's CARD OF 'familychecklaw04.ThresholdRuns'. -/
def thresholdRunsUptoCard : Claim7 := { stood := { row := thresholdRunsUptoRow, standIns := [], harness := (true, "56e3e5356a3dba5896033622894f7797520069dba051af286d1588fd02e584fe"), looks := false }, kinds := [], alts := [], laidByText := true, laidKinds := [.listed, .data], laidTests := true, laidLooks := .later }
def ThresholdRunsUptoCardSaid : Prop := Claim7.holds Tryz.pinned (.plain (OpenSpec.upto thresholdRunsSpec)) thresholdRunsUptoCard

/-- THE SECOND FORM's CARD OF 'familychecklaw04.ThresholdFeasible'. -/
def thresholdFeasibleUptoCard : Claim7 := { stood := { row := thresholdFeasibleUptoRow, standIns := [], harness := (true, "56e3e5356a3dba5896033622894f7797520069dba051af286d1588fd02e584fe"), looks := false }, kinds := [], alts := [], laidByText := true, laidKinds := [.listed, .data], laidTests := true, laidLooks := .later }
def ThresholdFeasibleUptoCardSaid : Prop := Claim7.holds Tryz.pinned (.plain (OpenSpec.upto thresholdFeasibleSpec)) thresholdFeasibleUptoCard

/-- THE SECOND FORM's CARD OF 'familychecklaw04.ThresholdReorders'. -/
def thresholdReordersUptoCard : Claim7 := { stood := { row := thresholdReordersUptoRow, standIns := [], harness := (true, "56e3e5356a3dba5896033622894f7797520069dba051af286d1588fd02e584fe"), looks := false }, kinds := [], alts := [], laidByText := true, laidKinds := [.listed, .data], laidTests := true, laidLooks := .later }
def ThresholdReordersUptoCardSaid : Prop := Claim7.holds Tryz.pinned (.plain (OpenSpec.upto thresholdReordersSpec)) thresholdReordersUptoCard
end Rows
end Go.Proofs.YtekmminpfhacpaaGreatDoor
