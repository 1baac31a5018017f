/-
  DERIVED. GIVEN WITH THE SEED: THE CARDS: each row of YtboelimimjojoaaGreatDoorRows.lean that lists a variable, with what it lists TIED to the program's text (the seventh form; the later family's looks); each row that meets fmt, with fmt's text TOLD by the authors' own Lean function (tested against real Go, not proved from fmt's source: count such statements apart). THE CARD IS WHAT COUNTS. Prove the row's statement (the work); the ties are given (YtboelimimjojoaaGreatDoorTie.lean); close each card by the builder's one call (the guide's Derived/Test/ToyasCard.lean, 'card_holds'). Laid BY PROGRAM, IN A SANDBOX (cutbox-door.mjs). By AI agents, Wed Nov 11 2026. No macro, syntax, notation, axiom, sorry.
-/
import Derived.Test.YtboelimimjojoaaGreatDoorRows
import GoSem.ClaimSeven
namespace Go.Proofs.YtboelimimjojoaaGreatDoor
namespace Rows

/-- THE TIED CARD OF 'familychecktop.TopRuns'. -/
def topRunsCard : Claim7 := { stood := { row := topRunsRow, standIns := [], harness := (true, "4962413fc4714059bfc44251545b9af153b9715ec058ef7a600a8374427912b3"), looks := false }, kinds := [], alts := [], laidByText := true, laidKinds := [.listed, .data], laidTests := true, laidLooks := .later }
def TopRunsCardSaid : Prop := Claim7.holds Tryz.pinned (.plain (OpenSpec.ofChange topRunsSpec)) topRunsCard

/-- THE TIED CARD OF 'familychecklaw03.UnfoldReaches'. -/
def unfoldReachesCard : Claim7 := { stood := { row := unfoldReachesRow, standIns := [], harness := (true, "4962413fc4714059bfc44251545b9af153b9715ec058ef7a600a8374427912b3"), looks := false }, kinds := [], alts := [], laidByText := true, laidKinds := [.listed, .data], laidTests := true, laidLooks := .later }
def UnfoldReachesCardSaid : Prop := Claim7.holds Tryz.pinned (.plain (OpenSpec.ofChange unfoldReachesSpec)) unfoldReachesCard

/-- THE TIED CARD OF 'familychecklaw03.UnfoldShortest'. -/
def unfoldShortestCard : Claim7 := { stood := { row := unfoldShortestRow, standIns := [], harness := (true, "4962413fc4714059bfc44251545b9af153b9715ec058ef7a600a8374427912b3"), looks := false }, kinds := [], alts := [], laidByText := true, laidKinds := [.listed, .data], laidTests := true, laidLooks := .later }
def UnfoldShortestCardSaid : Prop := Claim7.holds Tryz.pinned (.plain (OpenSpec.ofChange unfoldShortestSpec)) unfoldShortestCard

/-- THE TIED CARD OF 'familychecklaw03.UnfoldSmallest'. -/
def unfoldSmallestCard : Claim7 := { stood := { row := unfoldSmallestRow, standIns := [], harness := (true, "4962413fc4714059bfc44251545b9af153b9715ec058ef7a600a8374427912b3"), looks := false }, kinds := [], alts := [], laidByText := true, laidKinds := [.listed, .data], laidTests := true, laidLooks := .later }
def UnfoldSmallestCardSaid : Prop := Claim7.holds Tryz.pinned (.plain (OpenSpec.ofChange unfoldSmallestSpec)) unfoldSmallestCard

/-- THE TIED CARD OF 'familychecklaw03.UnfoldReachRun'. -/
def unfoldReachRunCard : Claim7 := { stood := { row := unfoldReachRunRow, standIns := [], harness := (true, "4962413fc4714059bfc44251545b9af153b9715ec058ef7a600a8374427912b3"), looks := false }, kinds := [], alts := [], laidByText := true, laidKinds := [.listed, .data], laidTests := true, laidLooks := .later }
def UnfoldReachRunCardSaid : Prop := Claim7.holds Tryz.pinned (.plain (OpenSpec.ofChange unfoldReachRunSpec)) unfoldReachRunCard

/-- THE TIED CARD OF 'familychecklaw03.UnfoldReachClosed'. -/
def unfoldReachClosedCard : Claim7 := { stood := { row := unfoldReachClosedRow, standIns := [], harness := (true, "4962413fc4714059bfc44251545b9af153b9715ec058ef7a600a8374427912b3"), looks := false }, kinds := [], alts := [], laidByText := true, laidKinds := [.listed, .data], laidTests := true, laidLooks := .later }
def UnfoldReachClosedCardSaid : Prop := Claim7.holds Tryz.pinned (.plain (OpenSpec.ofChange unfoldReachClosedSpec)) unfoldReachClosedCard

/-- THE TIED CARD OF 'familychecklaw03.UnfoldNoShorter'. -/
def unfoldNoShorterCard : Claim7 := { stood := { row := unfoldNoShorterRow, standIns := [], harness := (true, "4962413fc4714059bfc44251545b9af153b9715ec058ef7a600a8374427912b3"), looks := false }, kinds := [], alts := [], laidByText := true, laidKinds := [.listed, .data], laidTests := true, laidLooks := .later }
def UnfoldNoShorterCardSaid : Prop := Claim7.holds Tryz.pinned (.plain (OpenSpec.ofChange unfoldNoShorterSpec)) unfoldNoShorterCard

/-- THE SECOND FORM's CARD OF 'familychecktop.TopRuns'. -/
def topRunsUptoCard : Claim7 := { stood := { row := topRunsUptoRow, standIns := [], harness := (true, "4962413fc4714059bfc44251545b9af153b9715ec058ef7a600a8374427912b3"), looks := false }, kinds := [], alts := [], laidByText := true, laidKinds := [.listed, .data], laidTests := true, laidLooks := .later }
def TopRunsUptoCardSaid : Prop := Claim7.holds Tryz.pinned (.plain (OpenSpec.upto topRunsSpec)) topRunsUptoCard

/-- THE SECOND FORM's CARD OF 'familychecklaw03.UnfoldReaches'. -/
def unfoldReachesUptoCard : Claim7 := { stood := { row := unfoldReachesUptoRow, standIns := [], harness := (true, "4962413fc4714059bfc44251545b9af153b9715ec058ef7a600a8374427912b3"), looks := false }, kinds := [], alts := [], laidByText := true, laidKinds := [.listed, .data], laidTests := true, laidLooks := .later }
def UnfoldReachesUptoCardSaid : Prop := Claim7.holds Tryz.pinned (.plain (OpenSpec.upto unfoldReachesSpec)) unfoldReachesUptoCard

/-- THE SECOND FORM's CARD OF 'familychecklaw03.UnfoldShortest'. -/
def unfoldShortestUptoCard : Claim7 := { stood := { row := unfoldShortestUptoRow, standIns := [], harness := (true, "4962413fc4714059bfc44251545b9af153b9715ec058ef7a600a8374427912b3"), looks := false }, kinds := [], alts := [], laidByText := true, laidKinds := [.listed, .data], laidTests := true, laidLooks := .later }
def UnfoldShortestUptoCardSaid : Prop := Claim7.holds Tryz.pinned (.plain (OpenSpec.upto unfoldShortestSpec)) unfoldShortestUptoCard

/-- THE SECOND FORM's CARD OF 'familychecklaw03.UnfoldSmallest'. -/
def unfoldSmallestUptoCard : Claim7 := { stood := { row := unfoldSmallestUptoRow, standIns := [], harness := (true, "4962413fc4714059bfc44251545b9af153b9715ec058ef7a600a8374427912b3"), looks := false }, kinds := [], alts := [], laidByText := true, laidKinds := [.listed, .data], laidTests := true, laidLooks := .later }
def UnfoldSmallestUptoCardSaid : Prop := Claim7.holds Tryz.pinned (.plain (OpenSpec.upto unfoldSmallestSpec)) unfoldSmallestUptoCard

/-- THE SECOND FORM's CARD OF 'familychecklaw03.UnfoldReachRun'. -/
def unfoldReachRunUptoCard : Claim7 := { stood := { row := unfoldReachRunUptoRow, standIns := [], harness := (true, "4962413fc4714059bfc44251545b9af153b9715ec058ef7a600a8374427912b3"), looks := false }, kinds := [], alts := [], laidByText := true, laidKinds := [.listed, .data], laidTests := true, laidLooks := .later }
def UnfoldReachRunUptoCardSaid : Prop := Claim7.holds Tryz.pinned (.plain (OpenSpec.upto unfoldReachRunSpec)) unfoldReachRunUptoCard

/-- THE SECOND FORM's CARD OF 'familychecklaw03.UnfoldReachClosed'. -/
def unfoldReachClosedUptoCard : Claim7 := { stood := { row := unfoldReachClosedUptoRow, standIns := [], harness := (true, "4962413fc4714059bfc44251545b9af153b9715ec058ef7a600a8374427912b3"), looks := false }, kinds := [], alts := [], laidByText := true, laidKinds := [.listed, .data], laidTests := true, laidLooks := .later }
def UnfoldReachClosedUptoCardSaid : Prop := Claim7.holds Tryz.pinned (.plain (OpenSpec.upto unfoldReachClosedSpec)) unfoldReachClosedUptoCard

/-- THE SECOND FORM's CARD OF 'familychecklaw03.UnfoldNoShorter'. -/
def unfoldNoShorterUptoCard : Claim7 := { stood := { row := unfoldNoShorterUptoRow, standIns := [], harness := (true, "4962413fc4714059bfc44251545b9af153b9715ec058ef7a600a8374427912b3"), looks := false }, kinds := [], alts := [], laidByText := true, laidKinds := [.listed, .data], laidTests := true, laidLooks := .later }
def UnfoldNoShorterUptoCardSaid : Prop := Claim7.holds Tryz.pinned (.plain (OpenSpec.upto unfoldNoShorterSpec)) unfoldNoShorterUptoCard
end Rows
end Go.Proofs.YtboelimimjojoaaGreatDoor
