/-
  DERIVED. GIVEN WITH THE SEED: THE CARDS: each row of YtfoplfpbjajljaaGreatDoorRows.lean that lists a variable, with what it lists TIED to the program's text (the seventh form; the later family's looks); each row that meets fmt, with fmt's text TOLD by the authors' own Lean function (tested against real Go, not proved from fmt's source: count such statements apart). THE CARD IS WHAT COUNTS. Prove the row's statement (the work); the ties are given (YtfoplfpbjajljaaGreatDoorTie.lean); close each card by the builder's one call (the guide's Derived/Test/ToyasCard.lean, 'card_holds'). Laid BY PROGRAM, IN A SANDBOX (cutbox-door.mjs). By AI agents, Wed Nov 11 2026. No macro, syntax, notation, axiom, sorry.
-/
import Derived.Test.YtfoplfpbjajljaaGreatDoorRows
import GoSem.ClaimSeven
namespace Go.Proofs.YtfoplfpbjajljaaGreatDoor
namespace Rows

/-- THE TIED CARD OF 'familychecklaw04.ThresholdVariables'. -/
def thresholdVariablesCard : Claim7 := { stood := { row := thresholdVariablesRow, standIns := [], harness := (true, "2ef54fa13f3ae6763c63086d02aad6175096c4e809520090f83829cd912866f3"), looks := false }, kinds := [], alts := [], laidByText := true, laidKinds := [.listed, .data], laidTests := true, laidLooks := .later }
def ThresholdVariablesCardSaid : Prop := Claim7.holds Tryz.pinned (.plain (OpenSpec.ofChange thresholdVariablesSpec)) thresholdVariablesCard

/-- THE TIED CARD OF 'familychecklaw04.ThresholdChecks'. -/
def thresholdChecksCard : Claim7 := { stood := { row := thresholdChecksRow, standIns := [], harness := (true, "2ef54fa13f3ae6763c63086d02aad6175096c4e809520090f83829cd912866f3"), looks := false }, kinds := [], alts := [], laidByText := true, laidKinds := [.listed, .data], laidTests := true, laidLooks := .later }
def ThresholdChecksCardSaid : Prop := Claim7.holds Tryz.pinned (.plain (OpenSpec.ofChange thresholdChecksSpec)) thresholdChecksCard

/-- THE TIED CARD OF 'familychecklaw04.ThresholdBuilds'. -/
def thresholdBuildsCard : Claim7 := { stood := { row := thresholdBuildsRow, standIns := [], harness := (true, "2ef54fa13f3ae6763c63086d02aad6175096c4e809520090f83829cd912866f3"), looks := false }, kinds := [], alts := [], laidByText := true, laidKinds := [.listed, .data], laidTests := true, laidLooks := .later }
def ThresholdBuildsCardSaid : Prop := Claim7.holds Tryz.pinned (.plain (OpenSpec.ofChange thresholdBuildsSpec)) thresholdBuildsCard

/-- THE TIED CARD OF 'familychecklaw04.ThresholdFixes'. -/
def thresholdFixesCard : Claim7 := { stood := { row := thresholdFixesRow, standIns := [], harness := (true, "2ef54fa13f3ae6763c63086d02aad6175096c4e809520090f83829cd912866f3"), looks := false }, kinds := [], alts := [], laidByText := true, laidKinds := [.listed, .data], laidTests := true, laidLooks := .later }
def ThresholdFixesCardSaid : Prop := Claim7.holds Tryz.pinned (.plain (OpenSpec.ofChange thresholdFixesSpec)) thresholdFixesCard

/-- THE TIED CARD OF 'familychecklaw04.ThresholdAccepts'. -/
def thresholdAcceptsCard : Claim7 := { stood := { row := thresholdAcceptsRow, standIns := [], harness := (true, "2ef54fa13f3ae6763c63086d02aad6175096c4e809520090f83829cd912866f3"), looks := false }, kinds := [], alts := [], laidByText := true, laidKinds := [.listed, .data], laidTests := true, laidLooks := .later }
def ThresholdAcceptsCardSaid : Prop := Claim7.holds Tryz.pinned (.plain (OpenSpec.ofChange thresholdAcceptsSpec)) thresholdAcceptsCard

/-- THE SECOND FORM's CARD OF 'familychecklaw04.ThresholdVariables'. -/
def thresholdVariablesUptoCard : Claim7 := { stood := { row := thresholdVariablesUptoRow, standIns := [], harness := (true, "2ef54fa13f3ae6763c63086d02aad6175096c4e809520090f83829cd912866f3"), looks := false }, kinds := [], alts := [], laidByText := true, laidKinds := [.listed, .data], laidTests := true, laidLooks := .later }
def ThresholdVariablesUptoCardSaid : Prop := Claim7.holds Tryz.pinned (.plain (OpenSpec.upto thresholdVariablesSpec)) thresholdVariablesUptoCard

/-- THE SECOND FORM's CARD OF 'familychecklaw04.ThresholdChecks'. -/
def thresholdChecksUptoCard : Claim7 := { stood := { row := thresholdChecksUptoRow, standIns := [], harness := (true, "2ef54fa13f3ae6763c63086d02aad6175096c4e809520090f83829cd912866f3"), looks := false }, kinds := [], alts := [], laidByText := true, laidKinds := [.listed, .data], laidTests := true, laidLooks := .later }
def ThresholdChecksUptoCardSaid : Prop := Claim7.holds Tryz.pinned (.plain (OpenSpec.upto thresholdChecksSpec)) thresholdChecksUptoCard

/-- THE SECOND FORM's CARD OF 'familychecklaw04.ThresholdBuilds'. -/
def thresholdBuildsUptoCard : Claim7 := { stood := { row := thresholdBuildsUptoRow, standIns := [], harness := (true, "2ef54fa13f3ae6763c63086d02aad6175096c4e809520090f83829cd912866f3"), looks := false }, kinds := [], alts := [], laidByText := true, laidKinds := [.listed, .data], laidTests := true, laidLooks := .later }
def ThresholdBuildsUptoCardSaid : Prop := Claim7.holds Tryz.pinned (.plain (OpenSpec.upto thresholdBuildsSpec)) thresholdBuildsUptoCard

/-- THE SECOND FORM's CARD OF 'familychecklaw04.ThresholdFixes'. -/
def thresholdFixesUptoCard : Claim7 := { stood := { row := thresholdFixesUptoRow, standIns := [], harness := (true, "2ef54fa13f3ae6763c63086d02aad6175096c4e809520090f83829cd912866f3"), looks := false }, kinds := [], alts := [], laidByText := true, laidKinds := [.listed, .data], laidTests := true, laidLooks := .later }
def ThresholdFixesUptoCardSaid : Prop := Claim7.holds Tryz.pinned (.plain (OpenSpec.upto thresholdFixesSpec)) thresholdFixesUptoCard

/-- THE SECOND FORM's CARD OF 'familychecklaw04.ThresholdAccepts'. -/
def thresholdAcceptsUptoCard : Claim7 := { stood := { row := thresholdAcceptsUptoRow, standIns := [], harness := (true, "2ef54fa13f3ae6763c63086d02aad6175096c4e809520090f83829cd912866f3"), looks := false }, kinds := [], alts := [], laidByText := true, laidKinds := [.listed, .data], laidTests := true, laidLooks := .later }
def ThresholdAcceptsUptoCardSaid : Prop := Claim7.holds Tryz.pinned (.plain (OpenSpec.upto thresholdAcceptsSpec)) thresholdAcceptsUptoCard
end Rows
end Go.Proofs.YtfoplfpbjajljaaGreatDoor
