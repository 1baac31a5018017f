/-
  DERIVED. GIVEN WITH THE SEED: THE CARDS: each row of YtokjgegkhlkopaaGreatDoorRows.lean that lists a variable, with what it lists TIED to the program's text (the seventh form; the later family's looks); each row that meets fmt, with fmt's text TOLD by the authors' own Lean function (tested against real Go, not proved from fmt's source: count such statements apart). THE CARD IS WHAT COUNTS. Prove the row's statement (the work); the ties are given (YtokjgegkhlkopaaGreatDoorTie.lean); close each card by the builder's one call (the guide's Derived/Test/ToyasCard.lean, 'card_holds'). Laid BY PROGRAM, IN A SANDBOX (cutbox-door.mjs). By AI agents, Wed Nov 11 2026. No macro, syntax, notation, axiom, sorry.
-/
import Derived.Test.YtokjgegkhlkopaaGreatDoorRows
import GoSem.ClaimSeven
namespace Go.Proofs.YtokjgegkhlkopaaGreatDoor
namespace Rows

/-- THE TIED CARD OF 'familychecklaw03.UnfoldFairLassos'. -/
def unfoldFairLassosCard : Claim7 := { stood := { row := unfoldFairLassosRow, standIns := [], harness := (true, "009d9851f3069c5b7e3aae0beb5dd0878c9df4a2642ffd33aced7f53e17e78e5"), looks := false }, kinds := [], alts := [], laidByText := true, laidKinds := [.listed, .data], laidTests := true, laidLooks := .later }
def UnfoldFairLassosCardSaid : Prop := Claim7.holds Tryz.pinned (.plain (OpenSpec.ofChange unfoldFairLassosSpec)) unfoldFairLassosCard

/-- THE TIED CARD OF 'familychecklaw03.UnfoldSmallestLasso'. -/
def unfoldSmallestLassoCard : Claim7 := { stood := { row := unfoldSmallestLassoRow, standIns := [], harness := (true, "009d9851f3069c5b7e3aae0beb5dd0878c9df4a2642ffd33aced7f53e17e78e5"), looks := false }, kinds := [], alts := [], laidByText := true, laidKinds := [.listed, .data], laidTests := true, laidLooks := .later }
def UnfoldSmallestLassoCardSaid : Prop := Claim7.holds Tryz.pinned (.plain (OpenSpec.ofChange unfoldSmallestLassoSpec)) unfoldSmallestLassoCard

/-- THE SECOND FORM's CARD OF 'familychecklaw03.UnfoldFairLassos'. -/
def unfoldFairLassosUptoCard : Claim7 := { stood := { row := unfoldFairLassosUptoRow, standIns := [], harness := (true, "009d9851f3069c5b7e3aae0beb5dd0878c9df4a2642ffd33aced7f53e17e78e5"), looks := false }, kinds := [], alts := [], laidByText := true, laidKinds := [.listed, .data], laidTests := true, laidLooks := .later }
def UnfoldFairLassosUptoCardSaid : Prop := Claim7.holds Tryz.pinned (.plain (OpenSpec.upto unfoldFairLassosSpec)) unfoldFairLassosUptoCard

/-- THE SECOND FORM's CARD OF 'familychecklaw03.UnfoldSmallestLasso'. -/
def unfoldSmallestLassoUptoCard : Claim7 := { stood := { row := unfoldSmallestLassoUptoRow, standIns := [], harness := (true, "009d9851f3069c5b7e3aae0beb5dd0878c9df4a2642ffd33aced7f53e17e78e5"), looks := false }, kinds := [], alts := [], laidByText := true, laidKinds := [.listed, .data], laidTests := true, laidLooks := .later }
def UnfoldSmallestLassoUptoCardSaid : Prop := Claim7.holds Tryz.pinned (.plain (OpenSpec.upto unfoldSmallestLassoSpec)) unfoldSmallestLassoUptoCard
end Rows
end Go.Proofs.YtokjgegkhlkopaaGreatDoor
