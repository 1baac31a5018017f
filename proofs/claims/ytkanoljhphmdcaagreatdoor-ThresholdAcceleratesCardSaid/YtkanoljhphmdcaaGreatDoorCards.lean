/-
  DERIVED. GIVEN WITH THE SEED: THE CARDS: each row of YtkanoljhphmdcaaGreatDoorRows.lean that lists a variable, with what it lists TIED to the program's text (the seventh form; the later family's looks); each row that meets fmt, with fmt's text TOLD by the authors' own Lean function (tested against real Go, not proved from fmt's source: count such statements apart). THE CARD IS WHAT COUNTS. Prove the row's statement (the work); the ties are given (YtkanoljhphmdcaaGreatDoorTie.lean); close each card by the builder's one call (the guide's Derived/Test/ToyasCard.lean, 'card_holds'). Laid BY PROGRAM, IN A SANDBOX (cutbox-door.mjs). By AI agents, Wed Nov 11 2026. No macro, syntax, notation, axiom, sorry.
-/
import Derived.Test.YtkanoljhphmdcaaGreatDoorRows
import GoSem.ClaimSeven
namespace Go.Proofs.YtkanoljhphmdcaaGreatDoor
namespace Rows

/-- THE TIED CARD OF 'familychecklaw04.ThresholdOrders'. -/
def thresholdOrdersCard : Claim7 := { stood := { row := thresholdOrdersRow, standIns := [], harness := (true, "052dfc0b745ca48ea0e2ff5de1757ae61dc3d6e238ff811104bea19c7005d304"), looks := false }, kinds := [], alts := [], laidByText := true, laidKinds := [.listed, .data], laidTests := true, laidLooks := .later }
def ThresholdOrdersCardSaid : Prop := Claim7.holds Tryz.pinned (.plain (OpenSpec.ofChange thresholdOrdersSpec)) thresholdOrdersCard

/-- THE TIED CARD OF 'familychecklaw04.ThresholdMonotone'. -/
def thresholdMonotoneCard : Claim7 := { stood := { row := thresholdMonotoneRow, standIns := [], harness := (true, "052dfc0b745ca48ea0e2ff5de1757ae61dc3d6e238ff811104bea19c7005d304"), looks := false }, kinds := [], alts := [], laidByText := true, laidKinds := [.listed, .data], laidTests := true, laidLooks := .later }
def ThresholdMonotoneCardSaid : Prop := Claim7.holds Tryz.pinned (.plain (OpenSpec.ofChange thresholdMonotoneSpec)) thresholdMonotoneCard

/-- THE TIED CARD OF 'familychecklaw04.ThresholdAccelerates'. -/
def thresholdAcceleratesCard : Claim7 := { stood := { row := thresholdAcceleratesRow, standIns := [], harness := (true, "052dfc0b745ca48ea0e2ff5de1757ae61dc3d6e238ff811104bea19c7005d304"), looks := false }, kinds := [], alts := [], laidByText := true, laidKinds := [.listed, .data], laidTests := true, laidLooks := .later }
def ThresholdAcceleratesCardSaid : Prop := Claim7.holds Tryz.pinned (.plain (OpenSpec.ofChange thresholdAcceleratesSpec)) thresholdAcceleratesCard

/-- THE SECOND FORM's CARD OF 'familychecklaw04.ThresholdOrders'. -/
def thresholdOrdersUptoCard : Claim7 := { stood := { row := thresholdOrdersUptoRow, standIns := [], harness := (true, "052dfc0b745ca48ea0e2ff5de1757ae61dc3d6e238ff811104bea19c7005d304"), looks := false }, kinds := [], alts := [], laidByText := true, laidKinds := [.listed, .data], laidTests := true, laidLooks := .later }
def ThresholdOrdersUptoCardSaid : Prop := Claim7.holds Tryz.pinned (.plain (OpenSpec.upto thresholdOrdersSpec)) thresholdOrdersUptoCard

/-- THE SECOND FORM's CARD OF 'familychecklaw04.ThresholdMonotone'. -/
def thresholdMonotoneUptoCard : Claim7 := { stood := { row := thresholdMonotoneUptoRow, standIns := [], harness := (true, "052dfc0b745ca48ea0e2ff5de1757ae61dc3d6e238ff811104bea19c7005d304"), looks := false }, kinds := [], alts := [], laidByText := true, laidKinds := [.listed, .data], laidTests := true, laidLooks := .later }
def ThresholdMonotoneUptoCardSaid : Prop := Claim7.holds Tryz.pinned (.plain (OpenSpec.upto thresholdMonotoneSpec)) thresholdMonotoneUptoCard

/-- THE SECOND FORM's CARD OF 'familychecklaw04.ThresholdAccelerates'. -/
def thresholdAcceleratesUptoCard : Claim7 := { stood := { row := thresholdAcceleratesUptoRow, standIns := [], harness := (true, "052dfc0b745ca48ea0e2ff5de1757ae61dc3d6e238ff811104bea19c7005d304"), looks := false }, kinds := [], alts := [], laidByText := true, laidKinds := [.listed, .data], laidTests := true, laidLooks := .later }
def ThresholdAcceleratesUptoCardSaid : Prop := Claim7.holds Tryz.pinned (.plain (OpenSpec.upto thresholdAcceleratesSpec)) thresholdAcceleratesUptoCard
end Rows
end Go.Proofs.YtkanoljhphmdcaaGreatDoor
