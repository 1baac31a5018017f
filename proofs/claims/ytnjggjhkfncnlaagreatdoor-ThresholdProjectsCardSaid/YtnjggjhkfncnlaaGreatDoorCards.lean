/-
  DERIVED. GIVEN WITH THE SEED: THE CARDS: each row of YtnjggjhkfncnlaaGreatDoorRows.lean that lists a variable, with what it lists TIED to the program's text (the seventh form; the later family's looks); each row that meets fmt, with fmt's text TOLD by the authors' own Lean function (tested against real Go, not proved from fmt's source: count such statements apart). THE CARD IS WHAT COUNTS. Prove the row's statement (the work); the ties are given (YtnjggjhkfncnlaaGreatDoorTie.lean); close each card by the builder's one call (the guide's Derived/Test/ToyasCard.lean, 'card_holds'). Laid BY PROGRAM, IN A SANDBOX (cutbox-door.mjs). By AI agents, Wed Nov 11 2026. No macro, syntax, notation, axiom, sorry.
-/
import Derived.Test.YtnjggjhkfncnlaaGreatDoorRows
import GoSem.ClaimSeven
namespace Go.Proofs.YtnjggjhkfncnlaaGreatDoor
namespace Rows

/-- THE TIED CARD OF 'familychecklaw04.ThresholdProjects'. -/
def thresholdProjectsCard : Claim7 := { stood := { row := thresholdProjectsRow, standIns := [], harness := (true, "de5afa911a6f80d71e7ab184e544ba8961eeaecfd0462e0737cb4278e7b2e54b"), looks := false }, kinds := [], alts := [], laidByText := true, laidKinds := [.listed, .data], laidTests := true, laidLooks := .later }
def ThresholdProjectsCardSaid : Prop := Claim7.holds Tryz.pinned (.plain (OpenSpec.ofChange thresholdProjectsSpec)) thresholdProjectsCard

/-- THE TIED CARD OF 'familychecklaw04.ThresholdConcretizes'. -/
def thresholdConcretizesCard : Claim7 := { stood := { row := thresholdConcretizesRow, standIns := [], harness := (true, "de5afa911a6f80d71e7ab184e544ba8961eeaecfd0462e0737cb4278e7b2e54b"), looks := false }, kinds := [], alts := [], laidByText := true, laidKinds := [.listed, .data], laidTests := true, laidLooks := .later }
def ThresholdConcretizesCardSaid : Prop := Claim7.holds Tryz.pinned (.plain (OpenSpec.ofChange thresholdConcretizesSpec)) thresholdConcretizesCard

/-- THE TIED CARD OF 'familychecklaw04.ThresholdRuns'. -/
def thresholdRunsCard : Claim7 := { stood := { row := thresholdRunsRow, standIns := [], harness := (true, "de5afa911a6f80d71e7ab184e544ba8961eeaecfd0462e0737cb4278e7b2e54b"), looks := false }, kinds := [], alts := [], laidByText := true, laidKinds := [.listed, .data], laidTests := true, laidLooks := .later }
def ThresholdRunsCardSaid : Prop := Claim7.holds Tryz.pinned (.plain (OpenSpec.ofChange thresholdRunsSpec)) thresholdRunsCard

/-- THE SECOND FORM's CARD OF 'familychecklaw04.ThresholdProjects'. -/
def thresholdProjectsUptoCard : Claim7 := { stood := { row := thresholdProjectsUptoRow, standIns := [], harness := (true, "de5afa911a6f80d71e7ab184e544ba8961eeaecfd0462e0737cb4278e7b2e54b"), looks := false }, kinds := [], alts := [], laidByText := true, laidKinds := [.listed, .data], laidTests := true, laidLooks := .later }
def ThresholdProjectsUptoCardSaid : Prop := Claim7.holds Tryz.pinned (.plain (OpenSpec.upto thresholdProjectsSpec)) thresholdProjectsUptoCard

/-- THE SECOND FORM's CARD OF 'familychecklaw04.ThresholdConcretizes'. -/
def thresholdConcretizesUptoCard : Claim7 := { stood := { row := thresholdConcretizesUptoRow, standIns := [], harness := (true, "de5afa911a6f80d71e7ab184e544ba8961eeaecfd0462e0737cb4278e7b2e54b"), looks := false }, kinds := [], alts := [], laidByText := true, laidKinds := [.listed, .data], laidTests := true, laidLooks := .later }
def ThresholdConcretizesUptoCardSaid : Prop := Claim7.holds Tryz.pinned (.plain (OpenSpec.upto thresholdConcretizesSpec)) thresholdConcretizesUptoCard

/-- THE SECOND FORM's CARD OF 'familychecklaw04.ThresholdRuns'. -/
def thresholdRunsUptoCard : Claim7 := { stood := { row := thresholdRunsUptoRow, standIns := [], harness := (true, "de5afa911a6f80d71e7ab184e544ba8961eeaecfd0462e0737cb4278e7b2e54b"), looks := false }, kinds := [], alts := [], laidByText := true, laidKinds := [.listed, .data], laidTests := true, laidLooks := .later }
def ThresholdRunsUptoCardSaid : Prop := Claim7.holds Tryz.pinned (.plain (OpenSpec.upto thresholdRunsSpec)) thresholdRunsUptoCard
end Rows
end Go.Proofs.YtnjggjhkfncnlaaGreatDoor
