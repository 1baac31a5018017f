/-
  DERIVED. GIVEN WITH THE SEED: THE CARDS: each row of YtjnjieabdjpfnabDoorRows.lean that lists a variable, with what it lists TIED to the program's text (the seventh form; the later family's looks); each row that meets fmt, with fmt's text TOLD by the authors' own Lean function (tested against real Go, not proved from fmt's source: count such statements apart). THE CARD IS WHAT COUNTS. Prove the row's statement (the work); the ties are given (YtjnjieabdjpfnabDoorTie.lean); close each card by the builder's one call (the guide's Derived/Test/ToyasCard.lean, 'card_holds'). Laid BY PROGRAM, IN A SANDBOX (cutbox-door.mjs). By AI agents, Wed Nov 11 2026. No macro, syntax, notation, axiom, sorry.
-/
import Derived.Test.YtjnjieabdjpfnabDoorRows
import GoSem.ClaimSeven
namespace Go.Proofs.YtjnjieabdjpfnabDoor
namespace Rows

/-- THE TIED CARD OF 'familychecklaw03.UnfoldModels'. -/
def unfoldModelsCard : Claim7 := { stood := { row := unfoldModelsRow, standIns := [], harness := (true, "51fbbfb889880fde2982f451b3447c1ee26f2357295fe7b4af7046bfe104c63a"), looks := false }, kinds := [], alts := [], laidByText := true, laidKinds := [.listed, .data], laidTests := true, laidLooks := .later }
def UnfoldModelsCardSaid : Prop := Claim7.holds Tryd.pinned (.plain (OpenSpec.ofChange unfoldModelsSpec)) unfoldModelsCard

/-- THE TIED CARD OF 'familychecklaw03.UnfoldForcedSteps'. -/
def unfoldForcedStepsCard : Claim7 := { stood := { row := unfoldForcedStepsRow, standIns := [], harness := (true, "51fbbfb889880fde2982f451b3447c1ee26f2357295fe7b4af7046bfe104c63a"), looks := false }, kinds := [], alts := [], laidByText := true, laidKinds := [.listed, .data], laidTests := true, laidLooks := .later }
def UnfoldForcedStepsCardSaid : Prop := Claim7.holds Tryd.pinned (.plain (OpenSpec.ofChange unfoldForcedStepsSpec)) unfoldForcedStepsCard

/-- THE TIED CARD OF 'familychecklaw03.UnfoldPermutes'. -/
def unfoldPermutesCard : Claim7 := { stood := { row := unfoldPermutesRow, standIns := [], harness := (true, "51fbbfb889880fde2982f451b3447c1ee26f2357295fe7b4af7046bfe104c63a"), looks := false }, kinds := [], alts := [], laidByText := true, laidKinds := [.listed, .data], laidTests := true, laidLooks := .later }
def UnfoldPermutesCardSaid : Prop := Claim7.holds Tryd.pinned (.plain (OpenSpec.ofChange unfoldPermutesSpec)) unfoldPermutesCard

/-- THE TIED CARD OF 'familychecklaw03.UnfoldStays'. -/
def unfoldStaysCard : Claim7 := { stood := { row := unfoldStaysRow, standIns := [], harness := (true, "51fbbfb889880fde2982f451b3447c1ee26f2357295fe7b4af7046bfe104c63a"), looks := false }, kinds := [], alts := [], laidByText := true, laidKinds := [.listed, .data], laidTests := true, laidLooks := .later }
def UnfoldStaysCardSaid : Prop := Claim7.holds Tryd.pinned (.plain (OpenSpec.ofChange unfoldStaysSpec)) unfoldStaysCard

/-- THE TIED CARD OF 'familychecklaw03.UnfoldReplayCuts'. -/
def unfoldReplayCutsCard : Claim7 := { stood := { row := unfoldReplayCutsRow, standIns := [], harness := (true, "51fbbfb889880fde2982f451b3447c1ee26f2357295fe7b4af7046bfe104c63a"), looks := false }, kinds := [], alts := [], laidByText := true, laidKinds := [.listed, .data], laidTests := true, laidLooks := .later }
def UnfoldReplayCutsCardSaid : Prop := Claim7.holds Tryd.pinned (.plain (OpenSpec.ofChange unfoldReplayCutsSpec)) unfoldReplayCutsCard

/-- THE SECOND FORM's CARD OF 'familychecklaw03.UnfoldModels'. -/
def unfoldModelsUptoCard : Claim7 := { stood := { row := unfoldModelsUptoRow, standIns := [], harness := (true, "51fbbfb889880fde2982f451b3447c1ee26f2357295fe7b4af7046bfe104c63a"), looks := false }, kinds := [], alts := [], laidByText := true, laidKinds := [.listed, .data], laidTests := true, laidLooks := .later }
def UnfoldModelsUptoCardSaid : Prop := Claim7.holds Tryd.pinned (.plain (OpenSpec.upto unfoldModelsSpec)) unfoldModelsUptoCard

/-- THE SECOND FORM's CARD OF 'familychecklaw03.UnfoldForcedSteps'. -/
def unfoldForcedStepsUptoCard : Claim7 := { stood := { row := unfoldForcedStepsUptoRow, standIns := [], harness := (true, "51fbbfb889880fde2982f451b3447c1ee26f2357295fe7b4af7046bfe104c63a"), looks := false }, kinds := [], alts := [], laidByText := true, laidKinds := [.listed, .data], laidTests := true, laidLooks := .later }
def UnfoldForcedStepsUptoCardSaid : Prop := Claim7.holds Tryd.pinned (.plain (OpenSpec.upto unfoldForcedStepsSpec)) unfoldForcedStepsUptoCard

/-- THE SECOND FORM's CARD OF 'familychecklaw03.UnfoldPermutes'. -/
def unfoldPermutesUptoCard : Claim7 := { stood := { row := unfoldPermutesUptoRow, standIns := [], harness := (true, "51fbbfb889880fde2982f451b3447c1ee26f2357295fe7b4af7046bfe104c63a"), looks := false }, kinds := [], alts := [], laidByText := true, laidKinds := [.listed, .data], laidTests := true, laidLooks := .later }
def UnfoldPermutesUptoCardSaid : Prop := Claim7.holds Tryd.pinned (.plain (OpenSpec.upto unfoldPermutesSpec)) unfoldPermutesUptoCard

/-- THE SECOND FORM's CARD OF 'familychecklaw03.UnfoldStays'. -/
def unfoldStaysUptoCard : Claim7 := { stood := { row := unfoldStaysUptoRow, standIns := [], harness := (true, "51fbbfb889880fde2982f451b3447c1ee26f2357295fe7b4af7046bfe104c63a"), looks := false }, kinds := [], alts := [], laidByText := true, laidKinds := [.listed, .data], laidTests := true, laidLooks := .later }
def UnfoldStaysUptoCardSaid : Prop := Claim7.holds Tryd.pinned (.plain (OpenSpec.upto unfoldStaysSpec)) unfoldStaysUptoCard

/-- THE SECOND FORM's CARD OF 'familychecklaw03.UnfoldReplayCuts'. -/
def unfoldReplayCutsUptoCard : Claim7 := { stood := { row := unfoldReplayCutsUptoRow, standIns := [], harness := (true, "51fbbfb889880fde2982f451b3447c1ee26f2357295fe7b4af7046bfe104c63a"), looks := false }, kinds := [], alts := [], laidByText := true, laidKinds := [.listed, .data], laidTests := true, laidLooks := .later }
def UnfoldReplayCutsUptoCardSaid : Prop := Claim7.holds Tryd.pinned (.plain (OpenSpec.upto unfoldReplayCutsSpec)) unfoldReplayCutsUptoCard
end Rows
end Go.Proofs.YtjnjieabdjpfnabDoor
