/-
  DERIVED. GIVEN WITH THE SEED: THE CARDS: each row of YtaeomngmcfdfpaaGreatDoorRows.lean that lists a variable, with what it lists TIED to the program's text (the seventh form; the later family's looks); each row that meets fmt, with fmt's text TOLD by the authors' own Lean function (tested against real Go, not proved from fmt's source: count such statements apart). THE CARD IS WHAT COUNTS. Prove the row's statement (the work); the ties are given (YtaeomngmcfdfpaaGreatDoorTie.lean); close each card by the builder's one call (the guide's Derived/Test/ToyasCard.lean, 'card_holds'). Laid BY PROGRAM, IN A SANDBOX (cutbox-door.mjs). By AI agents, Wed Nov 11 2026. No macro, syntax, notation, axiom, sorry.
-/
import Derived.Test.YtaeomngmcfdfpaaGreatDoorRows
import GoSem.ClaimSeven
namespace Go.Proofs.YtaeomngmcfdfpaaGreatDoor
namespace Rows

/-- THE TIED CARD OF 'familychecklaw03.UnfoldSmallest'. -/
def unfoldSmallestCard : Claim7 := { stood := { row := unfoldSmallestRow, standIns := [], harness := (true, "b25634c960463b2e9d27ce46b05f0de6d42b03c4381604410d1d9f4abb579eac"), looks := false }, kinds := [], alts := [], laidByText := true, laidKinds := [.listed, .data], laidTests := true, laidLooks := .later }
def UnfoldSmallestCardSaid : Prop := Claim7.holds Tryz.pinned (.plain (OpenSpec.ofChange unfoldSmallestSpec)) unfoldSmallestCard

/-- THE SECOND FORM's CARD OF 'familychecklaw03.UnfoldSmallest'. -/
def unfoldSmallestUptoCard : Claim7 := { stood := { row := unfoldSmallestUptoRow, standIns := [], harness := (true, "b25634c960463b2e9d27ce46b05f0de6d42b03c4381604410d1d9f4abb579eac"), looks := false }, kinds := [], alts := [], laidByText := true, laidKinds := [.listed, .data], laidTests := true, laidLooks := .later }
def UnfoldSmallestUptoCardSaid : Prop := Claim7.holds Tryz.pinned (.plain (OpenSpec.upto unfoldSmallestSpec)) unfoldSmallestUptoCard
end Rows
end Go.Proofs.YtaeomngmcfdfpaaGreatDoor
