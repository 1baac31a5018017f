/-
  DERIVED. GIVEN WITH THE SEED: THE CARDS: each row of YthdneadmhfnchaaDoorRows.lean that lists a variable, with what it lists TIED to the program's text (the seventh form; the later family's looks); each row that meets fmt, with fmt's text TOLD by the authors' own Lean function (tested against real Go, not proved from fmt's source: count such statements apart). THE CARD IS WHAT COUNTS. Prove the row's statement (the work); the ties are given (YthdneadmhfnchaaDoorTie.lean); close each card by the builder's one call (the guide's Derived/Test/ToyasCard.lean, 'card_holds'). Laid BY PROGRAM, IN A SANDBOX (cutbox-door.mjs). By AI agents, Wed Nov 11 2026. No macro, syntax, notation, axiom, sorry.
-/
import Derived.Test.YthdneadmhfnchaaDoorRows
import GoSem.ClaimSeven
namespace Go.Proofs.YthdneadmhfnchaaDoor
namespace Rows

/-- THE TIED CARD OF 'familychecklaw03.UnfoldModels'. -/
def unfoldModelsCard : Claim7 := { stood := { row := unfoldModelsRow, standIns := [], harness := (true, "beccfcfda43ea6da9ed5018514d805095bbb914e538a29c5dd614c94402e6179"), looks := false }, kinds := [], alts := [], laidByText := true, laidKinds := [.listed, .data], laidTests := true, laidLooks := .later }
def UnfoldModelsCardSaid : Prop := Claim7.holds Tryd.pinned (.plain (OpenSpec.ofChange unfoldModelsSpec)) unfoldModelsCard

/-- THE TIED CARD OF 'familychecklaw03.UnfoldForcedSteps'. -/
def unfoldForcedStepsCard : Claim7 := { stood := { row := unfoldForcedStepsRow, standIns := [], harness := (true, "beccfcfda43ea6da9ed5018514d805095bbb914e538a29c5dd614c94402e6179"), looks := false }, kinds := [], alts := [], laidByText := true, laidKinds := [.listed, .data], laidTests := true, laidLooks := .later }
def UnfoldForcedStepsCardSaid : Prop := Claim7.holds Tryd.pinned (.plain (OpenSpec.ofChange unfoldForcedStepsSpec)) unfoldForcedStepsCard

/-- THE SECOND FORM's CARD OF 'familychecklaw03.UnfoldModels'. -/
def unfoldModelsUptoCard : Claim7 := { stood := { row := unfoldModelsUptoRow, standIns := [], harness := (true, "beccfcfda43ea6da9ed5018514d805095bbb914e538a29c5dd614c94402e6179"), looks := false }, kinds := [], alts := [], laidByText := true, laidKinds := [.listed, .data], laidTests := true, laidLooks := .later }
def UnfoldModelsUptoCardSaid : Prop := Claim7.holds Tryd.pinned (.plain (OpenSpec.upto unfoldModelsSpec)) unfoldModelsUptoCard

/-- THE SECOND FORM's CARD OF 'familychecklaw03.UnfoldForcedSteps'. -/
def unfoldForcedStepsUptoCard : Claim7 := { stood := { row := unfoldForcedStepsUptoRow, standIns := [], harness := (true, "beccfcfda43ea6da9ed5018514d805095bbb914e538a29c5dd614c94402e6179"), looks := false }, kinds := [], alts := [], laidByText := true, laidKinds := [.listed, .data], laidTests := true, laidLooks := .later }
def UnfoldForcedStepsUptoCardSaid : Prop := Claim7.holds Tryd.pinned (.plain (OpenSpec.upto unfoldForcedStepsSpec)) unfoldForcedStepsUptoCard
end Rows
end Go.Proofs.YthdneadmhfnchaaDoor
