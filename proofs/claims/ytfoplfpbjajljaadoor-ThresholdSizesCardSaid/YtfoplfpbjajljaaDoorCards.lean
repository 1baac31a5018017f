/-
  DERIVED. GIVEN WITH THE SEED: THE CARDS: each row of YtfoplfpbjajljaaDoorRows.lean that lists a variable, with what it lists TIED to the program's text (the seventh form; the later family's looks); each row that meets fmt, with fmt's text TOLD by the authors' own Lean function (tested against real Go, not proved from fmt's source: count such statements apart). THE CARD IS WHAT COUNTS. Prove the row's statement (the work); the ties are given (YtfoplfpbjajljaaDoorTie.lean); close each card by the builder's one call (the guide's Derived/Test/ToyasCard.lean, 'card_holds'). Laid BY PROGRAM, IN A SANDBOX (cutbox-door.mjs). By AI agents, Wed Nov 11 2026. No macro, syntax, notation, axiom, sorry.
-/
import Derived.Test.YtfoplfpbjajljaaDoorRows
import GoSem.ClaimSeven
namespace Go.Proofs.YtfoplfpbjajljaaDoor
namespace Rows

/-- THE TIED CARD OF 'familychecklaw04.ThresholdPrefixes'. -/
def thresholdPrefixesCard : Claim7 := { stood := { row := thresholdPrefixesRow, standIns := [], harness := (true, "e2967dcd8b1038307918c5f45b19f151d0a4fa9aa731053d6761ee0c9b5c6b02"), looks := false }, kinds := [], alts := [], laidByText := true, laidKinds := [.listed, .data], laidTests := true, laidLooks := .later }
def ThresholdPrefixesCardSaid : Prop := Claim7.holds Tryd.pinned (.plain (OpenSpec.ofChange thresholdPrefixesSpec)) thresholdPrefixesCard

/-- THE TIED CARD OF 'familychecklaw04.ThresholdSizes'. -/
def thresholdSizesCard : Claim7 := { stood := { row := thresholdSizesRow, standIns := [], harness := (true, "e2967dcd8b1038307918c5f45b19f151d0a4fa9aa731053d6761ee0c9b5c6b02"), looks := false }, kinds := [], alts := [], laidByText := true, laidKinds := [.listed, .data], laidTests := true, laidLooks := .later }
def ThresholdSizesCardSaid : Prop := Claim7.holds Tryd.pinned (.plain (OpenSpec.ofChange thresholdSizesSpec)) thresholdSizesCard

/-- THE SECOND FORM's CARD OF 'familychecklaw04.ThresholdPrefixes'. -/
def thresholdPrefixesUptoCard : Claim7 := { stood := { row := thresholdPrefixesUptoRow, standIns := [], harness := (true, "e2967dcd8b1038307918c5f45b19f151d0a4fa9aa731053d6761ee0c9b5c6b02"), looks := false }, kinds := [], alts := [], laidByText := true, laidKinds := [.listed, .data], laidTests := true, laidLooks := .later }
def ThresholdPrefixesUptoCardSaid : Prop := Claim7.holds Tryd.pinned (.plain (OpenSpec.upto thresholdPrefixesSpec)) thresholdPrefixesUptoCard

/-- THE SECOND FORM's CARD OF 'familychecklaw04.ThresholdSizes'. -/
def thresholdSizesUptoCard : Claim7 := { stood := { row := thresholdSizesUptoRow, standIns := [], harness := (true, "e2967dcd8b1038307918c5f45b19f151d0a4fa9aa731053d6761ee0c9b5c6b02"), looks := false }, kinds := [], alts := [], laidByText := true, laidKinds := [.listed, .data], laidTests := true, laidLooks := .later }
def ThresholdSizesUptoCardSaid : Prop := Claim7.holds Tryd.pinned (.plain (OpenSpec.upto thresholdSizesSpec)) thresholdSizesUptoCard
end Rows
end Go.Proofs.YtfoplfpbjajljaaDoor
