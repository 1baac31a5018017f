/-
  DERIVED. GIVEN WITH THE SEED: THE CARDS: each row of YtblcpnmnibcbbaaGreatDoorRows.lean that lists a variable, with what it lists TIED to the program's text (the seventh form; the later family's looks); each row that meets fmt, with fmt's text TOLD by the authors' own Lean function (tested against real Go, not proved from fmt's source: count such statements apart). THE CARD IS WHAT COUNTS. Prove the row's statement (the work); the ties are given (YtblcpnmnibcbbaaGreatDoorTie.lean); close each card by the builder's one call (the guide's Derived/Test/ToyasCard.lean, 'card_holds'). Laid BY PROGRAM, IN A SANDBOX (cutbox-door.mjs). By AI agents, Wed Nov 11 2026. No macro, syntax, notation, axiom, sorry.
-/
import Derived.Test.YtblcpnmnibcbbaaGreatDoorRows
import GoSem.ClaimSeven
namespace Go.Proofs.YtblcpnmnibcbbaaGreatDoor
namespace Rows

/-- THE TIED CARD OF 'familychecklaw03.UnfoldFairLassos'. -/
def unfoldFairLassosCard : Claim7 := { stood := { row := unfoldFairLassosRow, standIns := [], harness := (true, "ef83bdfe7e0ad6dea2f999beb6bb5b9aba1fe84ff0a2d0a7a284ba7e268158be"), looks := false }, kinds := [], alts := [], laidByText := true, laidKinds := [.listed, .data], laidTests := true, laidLooks := .later }
def UnfoldFairLassosCardSaid : Prop := Claim7.holds Tryz.pinned (.plain (OpenSpec.ofChange unfoldFairLassosSpec)) unfoldFairLassosCard

/-- THE TIED CARD OF 'familychecklaw03.UnfoldSmallestLasso'. -/
def unfoldSmallestLassoCard : Claim7 := { stood := { row := unfoldSmallestLassoRow, standIns := [], harness := (true, "ef83bdfe7e0ad6dea2f999beb6bb5b9aba1fe84ff0a2d0a7a284ba7e268158be"), looks := false }, kinds := [], alts := [], laidByText := true, laidKinds := [.listed, .data], laidTests := true, laidLooks := .later }
def UnfoldSmallestLassoCardSaid : Prop := Claim7.holds Tryz.pinned (.plain (OpenSpec.ofChange unfoldSmallestLassoSpec)) unfoldSmallestLassoCard

/-- THE TIED CARD OF 'familychecklaw03.UnfoldNoLasso'. -/
def unfoldNoLassoCard : Claim7 := { stood := { row := unfoldNoLassoRow, standIns := [], harness := (true, "ef83bdfe7e0ad6dea2f999beb6bb5b9aba1fe84ff0a2d0a7a284ba7e268158be"), looks := false }, kinds := [], alts := [], laidByText := true, laidKinds := [.listed, .data], laidTests := true, laidLooks := .later }
def UnfoldNoLassoCardSaid : Prop := Claim7.holds Tryz.pinned (.plain (OpenSpec.ofChange unfoldNoLassoSpec)) unfoldNoLassoCard

/-- THE SECOND FORM's CARD OF 'familychecklaw03.UnfoldFairLassos'. -/
def unfoldFairLassosUptoCard : Claim7 := { stood := { row := unfoldFairLassosUptoRow, standIns := [], harness := (true, "ef83bdfe7e0ad6dea2f999beb6bb5b9aba1fe84ff0a2d0a7a284ba7e268158be"), looks := false }, kinds := [], alts := [], laidByText := true, laidKinds := [.listed, .data], laidTests := true, laidLooks := .later }
def UnfoldFairLassosUptoCardSaid : Prop := Claim7.holds Tryz.pinned (.plain (OpenSpec.upto unfoldFairLassosSpec)) unfoldFairLassosUptoCard

/-- THE SECOND FORM's CARD OF 'familychecklaw03.UnfoldSmallestLasso'. -/
def unfoldSmallestLassoUptoCard : Claim7 := { stood := { row := unfoldSmallestLassoUptoRow, standIns := [], harness := (true, "ef83bdfe7e0ad6dea2f999beb6bb5b9aba1fe84ff0a2d0a7a284ba7e268158be"), looks := false }, kinds := [], alts := [], laidByText := true, laidKinds := [.listed, .data], laidTests := true, laidLooks := .later }
def UnfoldSmallestLassoUptoCardSaid : Prop := Claim7.holds Tryz.pinned (.plain (OpenSpec.upto unfoldSmallestLassoSpec)) unfoldSmallestLassoUptoCard

/-- THE SECOND FORM's CARD OF 'familychecklaw03.UnfoldNoLasso'. -/
def unfoldNoLassoUptoCard : Claim7 := { stood := { row := unfoldNoLassoUptoRow, standIns := [], harness := (true, "ef83bdfe7e0ad6dea2f999beb6bb5b9aba1fe84ff0a2d0a7a284ba7e268158be"), looks := false }, kinds := [], alts := [], laidByText := true, laidKinds := [.listed, .data], laidTests := true, laidLooks := .later }
def UnfoldNoLassoUptoCardSaid : Prop := Claim7.holds Tryz.pinned (.plain (OpenSpec.upto unfoldNoLassoSpec)) unfoldNoLassoUptoCard
end Rows
end Go.Proofs.YtblcpnmnibcbbaaGreatDoor
