/-
  No cell of these rows narrows 'for every input' (looked for: loops, veiled, ifaces, maps, wideKeys, modest, calm, conditions, laid).
  DERIVED. THE GIVEN ROWS OF THIS SEAT. 4 by the template 'for every input the law returns true; each argument reads behind the call as it read before'; 0 by the template 'total and deterministic' (their statements: YtihligeggkpolaaTotals.lean).
  GIVEN WITH THE SEED: the statements are not yours to turn. If you find one false, say at which input.
  Laid BY PROGRAM, IN A SANDBOX (cutbox-rows.mjs): the forced cells as the released guide's own fill.sh prints them over the translation ab173b147a83f012… (all of the seat's roots in one cut). By AI agents, Wed Nov 11 2026. No macro, syntax, notation, axiom, sorry.
-/
import Derived.Test.YtihligeggkpolaaChecked
import GoSem.Claim
import GoSem.ClaimJoined
import GoSem.ClaimMapViews
import Derived.JoinedTies
import Derived.KernelRfl
namespace Go.Proofs.Ytihligeggkpolaa
/- THE CELL 'sum', in the pinned program and in every row, IS THE sha256 OF THE DUMP (.gsa) THAT YtihligeggkpolaaProg.lean LOADS. Nothing in Lean hashes anything: it is a label: what it is worth is what the hold of that sum in a sandbox is worth. -/
noncomputable def Try.pinned : Pinned := { name := "ytihligeggkpolaa", sum := "ab173b147a83f012afddedc3a8dd491d16a405e2d2600e8f6c304a308e012dd6", checked := Try.checked }
namespace Rows
def none {H : Type} : Left H := { results := [], args := [] }

/-- 'familychecklaw03.UnfoldShapes': WHATEVER THE INPUT: true; the input reads as it did. -/
def unfoldShapesSpec : ChangeSpec := { name := "unfoldShapes", fn := fun _ => fun
  | [d] => { results := [.lit (.bool true)], args := [d] }
  | _ => none }
def unfoldShapesRow : OpenClaim := { program := "ytihligeggkpolaa", sum := "ab173b147a83f012afddedc3a8dd491d16a405e2d2600e8f6c304a308e012dd6", func := "familycheck/familychecklaw03.UnfoldShapes", spec := "unfoldShapes", unfollowed := true, recurses := true, apart := false }
def UnfoldShapesSaid : Prop := unfoldShapesRow.holds Try.pinned (OpenSpec.ofChange unfoldShapesSpec)

/-- ITS FALSE NEIGHBOUR: 'it returns false'. Refute it at one input. -/
def unfoldShapesWrong : ChangeSpec := { name := "unfoldShapes", fn := fun _ => fun
  | [d] => { results := [.lit (.bool false)], args := [d] }
  | _ => none }
def UnfoldShapesWrongFalsely : Prop := unfoldShapesRow.holds Try.pinned (OpenSpec.ofChange unfoldShapesWrong)

/-- 'familychecklaw03.UnfoldShapesAll': WHATEVER THE INPUT: true; the input reads as it did. -/
def unfoldShapesAllSpec : ChangeSpec := { name := "unfoldShapesAll", fn := fun _ => fun
  | [d] => { results := [.lit (.bool true)], args := [d] }
  | _ => none }
def unfoldShapesAllRow : OpenClaim := { program := "ytihligeggkpolaa", sum := "ab173b147a83f012afddedc3a8dd491d16a405e2d2600e8f6c304a308e012dd6", func := "familycheck/familychecklaw03.UnfoldShapesAll", spec := "unfoldShapesAll", unfollowed := true, recurses := true, apart := false }
def UnfoldShapesAllSaid : Prop := unfoldShapesAllRow.holds Try.pinned (OpenSpec.ofChange unfoldShapesAllSpec)

/-- ITS FALSE NEIGHBOUR: 'it returns false'. Refute it at one input. -/
def unfoldShapesAllWrong : ChangeSpec := { name := "unfoldShapesAll", fn := fun _ => fun
  | [d] => { results := [.lit (.bool false)], args := [d] }
  | _ => none }
def UnfoldShapesAllWrongFalsely : Prop := unfoldShapesAllRow.holds Try.pinned (OpenSpec.ofChange unfoldShapesAllWrong)

/-- 'familychecklaw03.UnfoldNeighborsBack': WHATEVER THE INPUT: true; the input reads as it did. -/
def unfoldNeighborsBackSpec : ChangeSpec := { name := "unfoldNeighborsBack", fn := fun _ => fun
  | [d1, d2] => { results := [.lit (.bool true)], args := [d1, d2] }
  | _ => none }
def unfoldNeighborsBackRow : OpenClaim := { program := "ytihligeggkpolaa", sum := "ab173b147a83f012afddedc3a8dd491d16a405e2d2600e8f6c304a308e012dd6", func := "familycheck/familychecklaw03.UnfoldNeighborsBack", spec := "unfoldNeighborsBack", unfollowed := true, recurses := true, apart := false }
def UnfoldNeighborsBackSaid : Prop := unfoldNeighborsBackRow.holds Try.pinned (OpenSpec.ofChange unfoldNeighborsBackSpec)

/-- ITS FALSE NEIGHBOUR: 'it returns false'. Refute it at one input. -/
def unfoldNeighborsBackWrong : ChangeSpec := { name := "unfoldNeighborsBack", fn := fun _ => fun
  | [d1, d2] => { results := [.lit (.bool false)], args := [d1, d2] }
  | _ => none }
def UnfoldNeighborsBackWrongFalsely : Prop := unfoldNeighborsBackRow.holds Try.pinned (OpenSpec.ofChange unfoldNeighborsBackWrong)

/-- 'familychecklaw03.UnfoldCompares': WHATEVER THE INPUT: true; the input reads as it did. -/
def unfoldComparesSpec : ChangeSpec := { name := "unfoldCompares", fn := fun _ => fun
  | [d1, d2, d3] => { results := [.lit (.bool true)], args := [d1, d2, d3] }
  | _ => none }
def unfoldComparesRow : OpenClaim := { program := "ytihligeggkpolaa", sum := "ab173b147a83f012afddedc3a8dd491d16a405e2d2600e8f6c304a308e012dd6", func := "familycheck/familychecklaw03.UnfoldCompares", spec := "unfoldCompares", unfollowed := true, recurses := true, apart := false }
def UnfoldComparesSaid : Prop := unfoldComparesRow.holds Try.pinned (OpenSpec.ofChange unfoldComparesSpec)

/-- ITS FALSE NEIGHBOUR: 'it returns false'. Refute it at one input. -/
def unfoldComparesWrong : ChangeSpec := { name := "unfoldCompares", fn := fun _ => fun
  | [d1, d2, d3] => { results := [.lit (.bool false)], args := [d1, d2, d3] }
  | _ => none }
def UnfoldComparesWrongFalsely : Prop := unfoldComparesRow.holds Try.pinned (OpenSpec.ofChange unfoldComparesWrong)

/- THE SECOND FORM. 'bulk': how many values and letters a reading holds, each counted each time it is reached (what is shared counts as often as it is met; a slice's spare places count too). A statement '..UptoSaid' is the law's where the arguments, and the package variables that the reading takes, are together of bulk at most 1048576: NARROWER than '..Said'. Prove '..Said' where nothing that the law and all that it calls make is longer than what came in: it says more and counts as full. Else prove '..UptoSaid'. A law counts once. -/
mutual
def uptoBulk {H : Type} : DataW H → Nat
  | .lit (.string bytes) => bytes.length + 1
  | .lit _ => 1
  | .nil => 1
  | .ptr d => uptoBulk d + 1
  | .slice elems spare => uptoBulkAll elems + uptoBulkAll spare + 1
  | .agg parts => uptoBulkAll parts + 1
  | .iface _ d => uptoBulk d + 1
  | .map entries => uptoBulkEntries entries + 1
  | .held _ => 1
def uptoBulkAll {H : Type} : List (DataW H) → Nat
  | [] => 0
  | d :: r => uptoBulk d + uptoBulkAll r
def uptoBulkEntries {H : Type} : List (Lit × DataW H) → Nat
  | [] => 0
  | x :: r => uptoBulkEntry x + uptoBulkEntries r
def uptoBulkEntry {H : Type} : Lit × DataW H → Nat
  | (.string bytes, d) => bytes.length + uptoBulk d + 1
  | (_, d) => uptoBulk d + 1
 end
def uptoSmall : (H : Type) → List (DataW H) → Bool := fun _ ds => decide (uptoBulkAll ds ≤ 1048576)
def OpenSpec.upto (s : _root_.Go.ChangeSpec) : _root_.Go.OpenSpec := { _root_.Go.OpenSpec.ofChange s with cond := some uptoSmall }

/-- 'familychecklaw03.UnfoldShapes', WHERE WHAT IT READS IS OF BULK AT MOST 1048576: true; the input reads as it did. -/
def unfoldShapesUptoRow : OpenClaim := { program := "ytihligeggkpolaa", sum := "ab173b147a83f012afddedc3a8dd491d16a405e2d2600e8f6c304a308e012dd6", func := "familycheck/familychecklaw03.UnfoldShapes", spec := "unfoldShapes", unfollowed := true, recurses := true, apart := false, narrowed := true }
def UnfoldShapesUptoSaid : Prop := unfoldShapesUptoRow.holds Try.pinned (OpenSpec.upto unfoldShapesSpec)

/-- 'familychecklaw03.UnfoldShapesAll', WHERE WHAT IT READS IS OF BULK AT MOST 1048576: true; the input reads as it did. -/
def unfoldShapesAllUptoRow : OpenClaim := { program := "ytihligeggkpolaa", sum := "ab173b147a83f012afddedc3a8dd491d16a405e2d2600e8f6c304a308e012dd6", func := "familycheck/familychecklaw03.UnfoldShapesAll", spec := "unfoldShapesAll", unfollowed := true, recurses := true, apart := false, narrowed := true }
def UnfoldShapesAllUptoSaid : Prop := unfoldShapesAllUptoRow.holds Try.pinned (OpenSpec.upto unfoldShapesAllSpec)

/-- 'familychecklaw03.UnfoldNeighborsBack', WHERE WHAT IT READS IS OF BULK AT MOST 1048576: true; the input reads as it did. -/
def unfoldNeighborsBackUptoRow : OpenClaim := { program := "ytihligeggkpolaa", sum := "ab173b147a83f012afddedc3a8dd491d16a405e2d2600e8f6c304a308e012dd6", func := "familycheck/familychecklaw03.UnfoldNeighborsBack", spec := "unfoldNeighborsBack", unfollowed := true, recurses := true, apart := false, narrowed := true }
def UnfoldNeighborsBackUptoSaid : Prop := unfoldNeighborsBackUptoRow.holds Try.pinned (OpenSpec.upto unfoldNeighborsBackSpec)

/-- 'familychecklaw03.UnfoldCompares', WHERE WHAT IT READS IS OF BULK AT MOST 1048576: true; the input reads as it did. -/
def unfoldComparesUptoRow : OpenClaim := { program := "ytihligeggkpolaa", sum := "ab173b147a83f012afddedc3a8dd491d16a405e2d2600e8f6c304a308e012dd6", func := "familycheck/familychecklaw03.UnfoldCompares", spec := "unfoldCompares", unfollowed := true, recurses := true, apart := false, narrowed := true }
def UnfoldComparesUptoSaid : Prop := unfoldComparesUptoRow.holds Try.pinned (OpenSpec.upto unfoldComparesSpec)

end Rows
end Go.Proofs.Ytihligeggkpolaa
