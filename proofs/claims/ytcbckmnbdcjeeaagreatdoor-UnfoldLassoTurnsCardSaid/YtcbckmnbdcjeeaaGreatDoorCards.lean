/-
  DERIVED. GIVEN WITH THE SEED: THE CARDS: each row of YtcbckmnbdcjeeaaGreatDoorRows.lean that lists a variable, with what it lists TIED to the program's text (the seventh form; the later family's looks); each row that meets fmt, with fmt's text TOLD by the authors' own Lean function (tested against real Go, not proved from fmt's source: count such statements apart). THE CARD IS WHAT COUNTS. Prove the row's statement (the work); the ties are given (YtcbckmnbdcjeeaaGreatDoorTie.lean); close each card by the builder's one call (the guide's Derived/Test/ToyasCard.lean, 'card_holds'). Laid BY PROGRAM, IN A SANDBOX (cutbox-door.mjs). By AI agents, Wed Nov 11 2026. No macro, syntax, notation, axiom, sorry.
-/
import Derived.Test.YtcbckmnbdcjeeaaGreatDoorRows
import GoSem.ClaimSeven
namespace Go.Proofs.YtcbckmnbdcjeeaaGreatDoor
namespace Rows

/-- THE TIED CARD OF 'familychecklaw03.UnfoldCounts'. -/
def unfoldCountsCard : Claim7 := { stood := { row := unfoldCountsRow, standIns := [], harness := (true, "234c09ad56921be29b89f0aa26f5f21cbd18c55f2f9f7b4d3d3e60aec0233b21"), looks := false }, kinds := [], alts := [], laidByText := true, laidKinds := [.listed, .data], laidTests := true, laidLooks := .later }
def UnfoldCountsCardSaid : Prop := Claim7.holds Tryz.pinned (.plain (OpenSpec.ofChange unfoldCountsSpec)) unfoldCountsCard

/-- THE TIED CARD OF 'familychecklaw03.UnfoldSymmetric'. -/
def unfoldSymmetricCard : Claim7 := { stood := { row := unfoldSymmetricRow, standIns := [], harness := (true, "234c09ad56921be29b89f0aa26f5f21cbd18c55f2f9f7b4d3d3e60aec0233b21"), looks := false }, kinds := [], alts := [], laidByText := true, laidKinds := [.listed, .data], laidTests := true, laidLooks := .later }
def UnfoldSymmetricCardSaid : Prop := Claim7.holds Tryz.pinned (.plain (OpenSpec.ofChange unfoldSymmetricSpec)) unfoldSymmetricCard

/-- THE TIED CARD OF 'familychecklaw03.UnfoldLassos'. -/
def unfoldLassosCard : Claim7 := { stood := { row := unfoldLassosRow, standIns := [], harness := (true, "234c09ad56921be29b89f0aa26f5f21cbd18c55f2f9f7b4d3d3e60aec0233b21"), looks := false }, kinds := [], alts := [], laidByText := true, laidKinds := [.listed, .data], laidTests := true, laidLooks := .later }
def UnfoldLassosCardSaid : Prop := Claim7.holds Tryz.pinned (.plain (OpenSpec.ofChange unfoldLassosSpec)) unfoldLassosCard

/-- THE TIED CARD OF 'familychecklaw03.UnfoldLassoTurns'. -/
def unfoldLassoTurnsCard : Claim7 := { stood := { row := unfoldLassoTurnsRow, standIns := [], harness := (true, "234c09ad56921be29b89f0aa26f5f21cbd18c55f2f9f7b4d3d3e60aec0233b21"), looks := false }, kinds := [], alts := [], laidByText := true, laidKinds := [.listed, .data], laidTests := true, laidLooks := .later }
def UnfoldLassoTurnsCardSaid : Prop := Claim7.holds Tryz.pinned (.plain (OpenSpec.ofChange unfoldLassoTurnsSpec)) unfoldLassoTurnsCard

/-- THE SECOND FORM's CARD OF 'familychecklaw03.UnfoldCounts'. -/
def unfoldCountsUptoCard : Claim7 := { stood := { row := unfoldCountsUptoRow, standIns := [], harness := (true, "234c09ad56921be29b89f0aa26f5f21cbd18c55f2f9f7b4d3d3e60aec0233b21"), looks := false }, kinds := [], alts := [], laidByText := true, laidKinds := [.listed, .data], laidTests := true, laidLooks := .later }
def UnfoldCountsUptoCardSaid : Prop := Claim7.holds Tryz.pinned (.plain (OpenSpec.upto unfoldCountsSpec)) unfoldCountsUptoCard

/-- THE SECOND FORM's CARD OF 'familychecklaw03.UnfoldSymmetric'. -/
def unfoldSymmetricUptoCard : Claim7 := { stood := { row := unfoldSymmetricUptoRow, standIns := [], harness := (true, "234c09ad56921be29b89f0aa26f5f21cbd18c55f2f9f7b4d3d3e60aec0233b21"), looks := false }, kinds := [], alts := [], laidByText := true, laidKinds := [.listed, .data], laidTests := true, laidLooks := .later }
def UnfoldSymmetricUptoCardSaid : Prop := Claim7.holds Tryz.pinned (.plain (OpenSpec.upto unfoldSymmetricSpec)) unfoldSymmetricUptoCard

/-- THE SECOND FORM's CARD OF 'familychecklaw03.UnfoldLassos'. -/
def unfoldLassosUptoCard : Claim7 := { stood := { row := unfoldLassosUptoRow, standIns := [], harness := (true, "234c09ad56921be29b89f0aa26f5f21cbd18c55f2f9f7b4d3d3e60aec0233b21"), looks := false }, kinds := [], alts := [], laidByText := true, laidKinds := [.listed, .data], laidTests := true, laidLooks := .later }
def UnfoldLassosUptoCardSaid : Prop := Claim7.holds Tryz.pinned (.plain (OpenSpec.upto unfoldLassosSpec)) unfoldLassosUptoCard

/-- THE SECOND FORM's CARD OF 'familychecklaw03.UnfoldLassoTurns'. -/
def unfoldLassoTurnsUptoCard : Claim7 := { stood := { row := unfoldLassoTurnsUptoRow, standIns := [], harness := (true, "234c09ad56921be29b89f0aa26f5f21cbd18c55f2f9f7b4d3d3e60aec0233b21"), looks := false }, kinds := [], alts := [], laidByText := true, laidKinds := [.listed, .data], laidTests := true, laidLooks := .later }
def UnfoldLassoTurnsUptoCardSaid : Prop := Claim7.holds Tryz.pinned (.plain (OpenSpec.upto unfoldLassoTurnsSpec)) unfoldLassoTurnsUptoCard
end Rows
end Go.Proofs.YtcbckmnbdcjeeaaGreatDoor
