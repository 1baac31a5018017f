/-
  DERIVED. GIVEN WITH THE SEED: THE CARDS: each row of YtgbicnldbhfhiaaGreatDoorRows.lean that lists a variable, with what it lists TIED to the program's text (the seventh form; the later family's looks); each row that meets fmt, with fmt's text TOLD by the authors' own Lean function (tested against real Go, not proved from fmt's source: count such statements apart). THE CARD IS WHAT COUNTS. Prove the row's statement (the work); the ties are given (YtgbicnldbhfhiaaGreatDoorTie.lean); close each card by the builder's one call (the guide's Derived/Test/ToyasCard.lean, 'card_holds'). Laid BY PROGRAM, IN A SANDBOX (cutbox-door.mjs). By AI agents, Wed Nov 11 2026. No macro, syntax, notation, axiom, sorry.
-/
import Derived.Test.YtgbicnldbhfhiaaGreatDoorRows
import GoSem.ClaimSeven
namespace Go.Proofs.YtgbicnldbhfhiaaGreatDoor
namespace Rows

/-- THE TIED CARD OF 'familychecklaw03.UnfoldApplies'. -/
def unfoldAppliesCard : Claim7 := { stood := { row := unfoldAppliesRow, standIns := [], harness := (true, "a2edf5cf47f96d521975e502916169bfa1cc3ca591911b6615f8a550f55c853e"), looks := false }, kinds := [], alts := [], laidByText := true, laidKinds := [.listed, .data], laidTests := true, laidLooks := .later }
def UnfoldAppliesCardSaid : Prop := Claim7.holds Tryz.pinned (.plain (OpenSpec.ofChange unfoldAppliesSpec)) unfoldAppliesCard

/-- THE TIED CARD OF 'familychecklaw03.UnfoldReplays'. -/
def unfoldReplaysCard : Claim7 := { stood := { row := unfoldReplaysRow, standIns := [], harness := (true, "a2edf5cf47f96d521975e502916169bfa1cc3ca591911b6615f8a550f55c853e"), looks := false }, kinds := [], alts := [], laidByText := true, laidKinds := [.listed, .data], laidTests := true, laidLooks := .later }
def UnfoldReplaysCardSaid : Prop := Claim7.holds Tryz.pinned (.plain (OpenSpec.ofChange unfoldReplaysSpec)) unfoldReplaysCard

/-- THE TIED CARD OF 'familychecklaw03.UnfoldStarts'. -/
def unfoldStartsCard : Claim7 := { stood := { row := unfoldStartsRow, standIns := [], harness := (true, "a2edf5cf47f96d521975e502916169bfa1cc3ca591911b6615f8a550f55c853e"), looks := false }, kinds := [], alts := [], laidByText := true, laidKinds := [.listed, .data], laidTests := true, laidLooks := .later }
def UnfoldStartsCardSaid : Prop := Claim7.holds Tryz.pinned (.plain (OpenSpec.ofChange unfoldStartsSpec)) unfoldStartsCard

/-- THE TIED CARD OF 'familychecklaw03.UnfoldStartsAll'. -/
def unfoldStartsAllCard : Claim7 := { stood := { row := unfoldStartsAllRow, standIns := [], harness := (true, "a2edf5cf47f96d521975e502916169bfa1cc3ca591911b6615f8a550f55c853e"), looks := false }, kinds := [], alts := [], laidByText := true, laidKinds := [.listed, .data], laidTests := true, laidLooks := .later }
def UnfoldStartsAllCardSaid : Prop := Claim7.holds Tryz.pinned (.plain (OpenSpec.ofChange unfoldStartsAllSpec)) unfoldStartsAllCard

/-- THE TIED CARD OF 'familychecklaw03.UnfoldSteps'. -/
def unfoldStepsCard : Claim7 := { stood := { row := unfoldStepsRow, standIns := [], harness := (true, "a2edf5cf47f96d521975e502916169bfa1cc3ca591911b6615f8a550f55c853e"), looks := false }, kinds := [], alts := [], laidByText := true, laidKinds := [.listed, .data], laidTests := true, laidLooks := .later }
def UnfoldStepsCardSaid : Prop := Claim7.holds Tryz.pinned (.plain (OpenSpec.ofChange unfoldStepsSpec)) unfoldStepsCard

/-- THE TIED CARD OF 'familychecklaw03.UnfoldViolates'. -/
def unfoldViolatesCard : Claim7 := { stood := { row := unfoldViolatesRow, standIns := [], harness := (true, "a2edf5cf47f96d521975e502916169bfa1cc3ca591911b6615f8a550f55c853e"), looks := false }, kinds := [], alts := [], laidByText := true, laidKinds := [.listed, .data], laidTests := true, laidLooks := .later }
def UnfoldViolatesCardSaid : Prop := Claim7.holds Tryz.pinned (.plain (OpenSpec.ofChange unfoldViolatesSpec)) unfoldViolatesCard

/-- THE SECOND FORM's CARD OF 'familychecklaw03.UnfoldApplies'. -/
def unfoldAppliesUptoCard : Claim7 := { stood := { row := unfoldAppliesUptoRow, standIns := [], harness := (true, "a2edf5cf47f96d521975e502916169bfa1cc3ca591911b6615f8a550f55c853e"), looks := false }, kinds := [], alts := [], laidByText := true, laidKinds := [.listed, .data], laidTests := true, laidLooks := .later }
def UnfoldAppliesUptoCardSaid : Prop := Claim7.holds Tryz.pinned (.plain (OpenSpec.upto unfoldAppliesSpec)) unfoldAppliesUptoCard

/-- THE SECOND FORM's CARD OF 'familychecklaw03.UnfoldReplays'. -/
def unfoldReplaysUptoCard : Claim7 := { stood := { row := unfoldReplaysUptoRow, standIns := [], harness := (true, "a2edf5cf47f96d521975e502916169bfa1cc3ca591911b6615f8a550f55c853e"), looks := false }, kinds := [], alts := [], laidByText := true, laidKinds := [.listed, .data], laidTests := true, laidLooks := .later }
def UnfoldReplaysUptoCardSaid : Prop := Claim7.holds Tryz.pinned (.plain (OpenSpec.upto unfoldReplaysSpec)) unfoldReplaysUptoCard

/-- THE SECOND FORM's CARD OF 'familychecklaw03.UnfoldStarts'. -/
def unfoldStartsUptoCard : Claim7 := { stood := { row := unfoldStartsUptoRow, standIns := [], harness := (true, "a2edf5cf47f96d521975e502916169bfa1cc3ca591911b6615f8a550f55c853e"), looks := false }, kinds := [], alts := [], laidByText := true, laidKinds := [.listed, .data], laidTests := true, laidLooks := .later }
def UnfoldStartsUptoCardSaid : Prop := Claim7.holds Tryz.pinned (.plain (OpenSpec.upto unfoldStartsSpec)) unfoldStartsUptoCard

/-- THE SECOND FORM's CARD OF 'familychecklaw03.UnfoldStartsAll'. -/
def unfoldStartsAllUptoCard : Claim7 := { stood := { row := unfoldStartsAllUptoRow, standIns := [], harness := (true, "a2edf5cf47f96d521975e502916169bfa1cc3ca591911b6615f8a550f55c853e"), looks := false }, kinds := [], alts := [], laidByText := true, laidKinds := [.listed, .data], laidTests := true, laidLooks := .later }
def UnfoldStartsAllUptoCardSaid : Prop := Claim7.holds Tryz.pinned (.plain (OpenSpec.upto unfoldStartsAllSpec)) unfoldStartsAllUptoCard

/-- THE SECOND FORM's CARD OF 'familychecklaw03.UnfoldSteps'. -/
def unfoldStepsUptoCard : Claim7 := { stood := { row := unfoldStepsUptoRow, standIns := [], harness := (true, "a2edf5cf47f96d521975e502916169bfa1cc3ca591911b6615f8a550f55c853e"), looks := false }, kinds := [], alts := [], laidByText := true, laidKinds := [.listed, .data], laidTests := true, laidLooks := .later }
def UnfoldStepsUptoCardSaid : Prop := Claim7.holds Tryz.pinned (.plain (OpenSpec.upto unfoldStepsSpec)) unfoldStepsUptoCard

/-- THE SECOND FORM's CARD OF 'familychecklaw03.UnfoldViolates'. -/
def unfoldViolatesUptoCard : Claim7 := { stood := { row := unfoldViolatesUptoRow, standIns := [], harness := (true, "a2edf5cf47f96d521975e502916169bfa1cc3ca591911b6615f8a550f55c853e"), looks := false }, kinds := [], alts := [], laidByText := true, laidKinds := [.listed, .data], laidTests := true, laidLooks := .later }
def UnfoldViolatesUptoCardSaid : Prop := Claim7.holds Tryz.pinned (.plain (OpenSpec.upto unfoldViolatesSpec)) unfoldViolatesUptoCard
end Rows
end Go.Proofs.YtgbicnldbhfhiaaGreatDoor
