/-
  NARROWER THAN 'FOR EVERY INPUT', by the rows' own cells (each row's printed sentence says how): TopRuns: laid · UnfoldReaches: laid · UnfoldShortest: laid · UnfoldSmallest: laid · UnfoldReachRun: laid · UnfoldReachClosed: laid · UnfoldNoShorter: laid.
  DERIVED. THE GIVEN ROWS OF THIS SEAT. 7 by the template 'for every input the law returns true; each argument reads behind the call as it read before'; 0 by the template 'total and deterministic' (their statements: YtboelimimjojoaaGreatDoorTotals.lean).
  GIVEN WITH THE SEED: the statements are not yours to turn. If you find one false, say at which input.
  Laid BY PROGRAM, IN A SANDBOX (cutbox-rows.mjs): the forced cells as the released guide's own fill.sh prints them over the translation 1feda3302294f5db… (all of the seat's roots in one cut). By AI agents, Wed Nov 11 2026. No macro, syntax, notation, axiom, sorry.
-/
import Derived.Test.YtboelimimjojoaaGreatDoorChecked
import GoSem.Claim
import GoSem.ClaimJoined
import GoSem.ClaimMapViews
import Derived.JoinedTies
import Derived.KernelRfl
namespace Go.Proofs.YtboelimimjojoaaGreatDoor
/- THE CELL 'sum', in the pinned program and in every row, IS THE sha256 OF THE DUMP (.gsa) THAT YtboelimimjojoaaGreatDoorProg.lean LOADS. Nothing in Lean hashes anything: it is a label: what it is worth is what the hold of that sum in a sandbox is worth. -/
noncomputable def Tryz.pinned : Pinned := { name := "ytboelimimjojoaagreatdoor", sum := "1feda3302294f5db9ad76a08ca870ebadfa7c2fdcafbf8e1932f7be0c4c4d2b8", checked := Tryz.checked }
namespace Rows
def none {H : Type} : Left H := { results := [], args := [] }

/- WHAT THE LISTED PACKAGE-LEVEL VARIABLES READ AS WHEN THE CALL BEGINS. Each datum BY PROGRAM (the guide's laid-datum.mjs) off the statement by which the dump's own 'gosem.cut.vars' lays the variable. In a bare row this is a premise. The card (YtboelimimjojoaaGreatDoorCards.lean) ties it to the program's text. -/
def laid_unicode_White_Space {H : Type} : DataW H := .ptr (.agg [.slice [.agg [.lit (.int .u16 9), .lit (.int .u16 13), .lit (.int .u16 1)], .agg [.lit (.int .u16 32), .lit (.int .u16 133), .lit (.int .u16 101)], .agg [.lit (.int .u16 160), .lit (.int .u16 5760), .lit (.int .u16 5600)], .agg [.lit (.int .u16 8192), .lit (.int .u16 8202), .lit (.int .u16 1)], .agg [.lit (.int .u16 8232), .lit (.int .u16 8233), .lit (.int .u16 1)], .agg [.lit (.int .u16 8239), .lit (.int .u16 8287), .lit (.int .u16 48)], .agg [.lit (.int .u16 12288), .lit (.int .u16 12288), .lit (.int .u16 1)]] [], .nil, .lit (.int .i64 2)])
def laid_strings_asciiSpace {H : Type} : DataW H := .agg [.lit (.int .u8 0), .lit (.int .u8 0), .lit (.int .u8 0), .lit (.int .u8 0), .lit (.int .u8 0), .lit (.int .u8 0), .lit (.int .u8 0), .lit (.int .u8 0), .lit (.int .u8 0), .lit (.int .u8 1), .lit (.int .u8 1), .lit (.int .u8 1), .lit (.int .u8 1), .lit (.int .u8 1), .lit (.int .u8 0), .lit (.int .u8 0), .lit (.int .u8 0), .lit (.int .u8 0), .lit (.int .u8 0), .lit (.int .u8 0), .lit (.int .u8 0), .lit (.int .u8 0), .lit (.int .u8 0), .lit (.int .u8 0), .lit (.int .u8 0), .lit (.int .u8 0), .lit (.int .u8 0), .lit (.int .u8 0), .lit (.int .u8 0), .lit (.int .u8 0), .lit (.int .u8 0), .lit (.int .u8 0), .lit (.int .u8 1), .lit (.int .u8 0), .lit (.int .u8 0), .lit (.int .u8 0), .lit (.int .u8 0), .lit (.int .u8 0), .lit (.int .u8 0), .lit (.int .u8 0), .lit (.int .u8 0), .lit (.int .u8 0), .lit (.int .u8 0), .lit (.int .u8 0), .lit (.int .u8 0), .lit (.int .u8 0), .lit (.int .u8 0), .lit (.int .u8 0), .lit (.int .u8 0), .lit (.int .u8 0), .lit (.int .u8 0), .lit (.int .u8 0), .lit (.int .u8 0), .lit (.int .u8 0), .lit (.int .u8 0), .lit (.int .u8 0), .lit (.int .u8 0), .lit (.int .u8 0), .lit (.int .u8 0), .lit (.int .u8 0), .lit (.int .u8 0), .lit (.int .u8 0), .lit (.int .u8 0), .lit (.int .u8 0), .lit (.int .u8 0), .lit (.int .u8 0), .lit (.int .u8 0), .lit (.int .u8 0), .lit (.int .u8 0), .lit (.int .u8 0), .lit (.int .u8 0), .lit (.int .u8 0), .lit (.int .u8 0), .lit (.int .u8 0), .lit (.int .u8 0), .lit (.int .u8 0), .lit (.int .u8 0), .lit (.int .u8 0), .lit (.int .u8 0), .lit (.int .u8 0), .lit (.int .u8 0), .lit (.int .u8 0), .lit (.int .u8 0), .lit (.int .u8 0), .lit (.int .u8 0), .lit (.int .u8 0), .lit (.int .u8 0), .lit (.int .u8 0), .lit (.int .u8 0), .lit (.int .u8 0), .lit (.int .u8 0), .lit (.int .u8 0), .lit (.int .u8 0), .lit (.int .u8 0), .lit (.int .u8 0), .lit (.int .u8 0), .lit (.int .u8 0), .lit (.int .u8 0), .lit (.int .u8 0), .lit (.int .u8 0), .lit (.int .u8 0), .lit (.int .u8 0), .lit (.int .u8 0), .lit (.int .u8 0), .lit (.int .u8 0), .lit (.int .u8 0), .lit (.int .u8 0), .lit (.int .u8 0), .lit (.int .u8 0), .lit (.int .u8 0), .lit (.int .u8 0), .lit (.int .u8 0), .lit (.int .u8 0), .lit (.int .u8 0), .lit (.int .u8 0), .lit (.int .u8 0), .lit (.int .u8 0), .lit (.int .u8 0), .lit (.int .u8 0), .lit (.int .u8 0), .lit (.int .u8 0), .lit (.int .u8 0), .lit (.int .u8 0), .lit (.int .u8 0), .lit (.int .u8 0), .lit (.int .u8 0), .lit (.int .u8 0), .lit (.int .u8 0), .lit (.int .u8 0), .lit (.int .u8 0), .lit (.int .u8 0), .lit (.int .u8 0), .lit (.int .u8 0), .lit (.int .u8 0), .lit (.int .u8 0), .lit (.int .u8 0), .lit (.int .u8 0), .lit (.int .u8 0), .lit (.int .u8 0), .lit (.int .u8 0), .lit (.int .u8 0), .lit (.int .u8 0), .lit (.int .u8 0), .lit (.int .u8 0), .lit (.int .u8 0), .lit (.int .u8 0), .lit (.int .u8 0), .lit (.int .u8 0), .lit (.int .u8 0), .lit (.int .u8 0), .lit (.int .u8 0), .lit (.int .u8 0), .lit (.int .u8 0), .lit (.int .u8 0), .lit (.int .u8 0), .lit (.int .u8 0), .lit (.int .u8 0), .lit (.int .u8 0), .lit (.int .u8 0), .lit (.int .u8 0), .lit (.int .u8 0), .lit (.int .u8 0), .lit (.int .u8 0), .lit (.int .u8 0), .lit (.int .u8 0), .lit (.int .u8 0), .lit (.int .u8 0), .lit (.int .u8 0), .lit (.int .u8 0), .lit (.int .u8 0), .lit (.int .u8 0), .lit (.int .u8 0), .lit (.int .u8 0), .lit (.int .u8 0), .lit (.int .u8 0), .lit (.int .u8 0), .lit (.int .u8 0), .lit (.int .u8 0), .lit (.int .u8 0), .lit (.int .u8 0), .lit (.int .u8 0), .lit (.int .u8 0), .lit (.int .u8 0), .lit (.int .u8 0), .lit (.int .u8 0), .lit (.int .u8 0), .lit (.int .u8 0), .lit (.int .u8 0), .lit (.int .u8 0), .lit (.int .u8 0), .lit (.int .u8 0), .lit (.int .u8 0), .lit (.int .u8 0), .lit (.int .u8 0), .lit (.int .u8 0), .lit (.int .u8 0), .lit (.int .u8 0), .lit (.int .u8 0), .lit (.int .u8 0), .lit (.int .u8 0), .lit (.int .u8 0), .lit (.int .u8 0), .lit (.int .u8 0), .lit (.int .u8 0), .lit (.int .u8 0), .lit (.int .u8 0), .lit (.int .u8 0), .lit (.int .u8 0), .lit (.int .u8 0), .lit (.int .u8 0), .lit (.int .u8 0), .lit (.int .u8 0), .lit (.int .u8 0), .lit (.int .u8 0), .lit (.int .u8 0), .lit (.int .u8 0), .lit (.int .u8 0), .lit (.int .u8 0), .lit (.int .u8 0), .lit (.int .u8 0), .lit (.int .u8 0), .lit (.int .u8 0), .lit (.int .u8 0), .lit (.int .u8 0), .lit (.int .u8 0), .lit (.int .u8 0), .lit (.int .u8 0), .lit (.int .u8 0), .lit (.int .u8 0), .lit (.int .u8 0), .lit (.int .u8 0), .lit (.int .u8 0), .lit (.int .u8 0), .lit (.int .u8 0), .lit (.int .u8 0), .lit (.int .u8 0), .lit (.int .u8 0), .lit (.int .u8 0), .lit (.int .u8 0), .lit (.int .u8 0), .lit (.int .u8 0), .lit (.int .u8 0), .lit (.int .u8 0), .lit (.int .u8 0), .lit (.int .u8 0), .lit (.int .u8 0), .lit (.int .u8 0), .lit (.int .u8 0), .lit (.int .u8 0), .lit (.int .u8 0), .lit (.int .u8 0), .lit (.int .u8 0), .lit (.int .u8 0), .lit (.int .u8 0), .lit (.int .u8 0), .lit (.int .u8 0)]

/-- 'familychecktop.TopRuns': WHATEVER THE INPUT: true; the input reads as it did. -/
def topRunsSpec : ChangeSpec := { name := "topRuns", fn := fun _ => fun
  | [d1, d2] => { results := [.lit (.bool true)], args := [d1, d2] }
  | _ => none }
def topRunsRow : OpenClaim := { program := "ytboelimimjojoaagreatdoor", sum := "1feda3302294f5db9ad76a08ca870ebadfa7c2fdcafbf8e1932f7be0c4c4d2b8", func := "familycheck/familychecktop.TopRuns", spec := "topRuns", unfollowed := true, recurses := true, named := ["strings.asciiSpace", "unicode.White_Space"], apart := false, laid := [("unicode.White_Space", laid_unicode_White_Space), ("strings.asciiSpace", laid_strings_asciiSpace)] }
def TopRunsSaid : Prop := topRunsRow.holds Tryz.pinned (OpenSpec.ofChange topRunsSpec)

/-- ITS FALSE NEIGHBOUR: 'it returns false'. Refute it at one input. -/
def topRunsWrong : ChangeSpec := { name := "topRuns", fn := fun _ => fun
  | [d1, d2] => { results := [.lit (.bool false)], args := [d1, d2] }
  | _ => none }
def TopRunsWrongFalsely : Prop := topRunsRow.holds Tryz.pinned (OpenSpec.ofChange topRunsWrong)

/-- 'familychecklaw03.UnfoldReaches': WHATEVER THE INPUT: true; the input reads as it did. -/
def unfoldReachesSpec : ChangeSpec := { name := "unfoldReaches", fn := fun _ => fun
  | [d] => { results := [.lit (.bool true)], args := [d] }
  | _ => none }
def unfoldReachesRow : OpenClaim := { program := "ytboelimimjojoaagreatdoor", sum := "1feda3302294f5db9ad76a08ca870ebadfa7c2fdcafbf8e1932f7be0c4c4d2b8", func := "familycheck/familychecklaw03.UnfoldReaches", spec := "unfoldReaches", unfollowed := true, recurses := true, named := ["strings.asciiSpace", "unicode.White_Space"], apart := false, laid := [("unicode.White_Space", laid_unicode_White_Space), ("strings.asciiSpace", laid_strings_asciiSpace)] }
def UnfoldReachesSaid : Prop := unfoldReachesRow.holds Tryz.pinned (OpenSpec.ofChange unfoldReachesSpec)

/-- ITS FALSE NEIGHBOUR: 'it returns false'. Refute it at one input. -/
def unfoldReachesWrong : ChangeSpec := { name := "unfoldReaches", fn := fun _ => fun
  | [d] => { results := [.lit (.bool false)], args := [d] }
  | _ => none }
def UnfoldReachesWrongFalsely : Prop := unfoldReachesRow.holds Tryz.pinned (OpenSpec.ofChange unfoldReachesWrong)

/-- 'familychecklaw03.UnfoldShortest': WHATEVER THE INPUT: true; the input reads as it did. -/
def unfoldShortestSpec : ChangeSpec := { name := "unfoldShortest", fn := fun _ => fun
  | [d] => { results := [.lit (.bool true)], args := [d] }
  | _ => none }
def unfoldShortestRow : OpenClaim := { program := "ytboelimimjojoaagreatdoor", sum := "1feda3302294f5db9ad76a08ca870ebadfa7c2fdcafbf8e1932f7be0c4c4d2b8", func := "familycheck/familychecklaw03.UnfoldShortest", spec := "unfoldShortest", unfollowed := true, recurses := true, named := ["strings.asciiSpace", "unicode.White_Space"], apart := false, laid := [("unicode.White_Space", laid_unicode_White_Space), ("strings.asciiSpace", laid_strings_asciiSpace)] }
def UnfoldShortestSaid : Prop := unfoldShortestRow.holds Tryz.pinned (OpenSpec.ofChange unfoldShortestSpec)

/-- ITS FALSE NEIGHBOUR: 'it returns false'. Refute it at one input. -/
def unfoldShortestWrong : ChangeSpec := { name := "unfoldShortest", fn := fun _ => fun
  | [d] => { results := [.lit (.bool false)], args := [d] }
  | _ => none }
def UnfoldShortestWrongFalsely : Prop := unfoldShortestRow.holds Tryz.pinned (OpenSpec.ofChange unfoldShortestWrong)

/-- 'familychecklaw03.UnfoldSmallest': WHATEVER THE INPUT: true; the input reads as it did. -/
def unfoldSmallestSpec : ChangeSpec := { name := "unfoldSmallest", fn := fun _ => fun
  | [d1, d2, d3] => { results := [.lit (.bool true)], args := [d1, d2, d3] }
  | _ => none }
def unfoldSmallestRow : OpenClaim := { program := "ytboelimimjojoaagreatdoor", sum := "1feda3302294f5db9ad76a08ca870ebadfa7c2fdcafbf8e1932f7be0c4c4d2b8", func := "familycheck/familychecklaw03.UnfoldSmallest", spec := "unfoldSmallest", unfollowed := true, recurses := true, named := ["strings.asciiSpace", "unicode.White_Space"], apart := false, laid := [("unicode.White_Space", laid_unicode_White_Space), ("strings.asciiSpace", laid_strings_asciiSpace)] }
def UnfoldSmallestSaid : Prop := unfoldSmallestRow.holds Tryz.pinned (OpenSpec.ofChange unfoldSmallestSpec)

/-- ITS FALSE NEIGHBOUR: 'it returns false'. Refute it at one input. -/
def unfoldSmallestWrong : ChangeSpec := { name := "unfoldSmallest", fn := fun _ => fun
  | [d1, d2, d3] => { results := [.lit (.bool false)], args := [d1, d2, d3] }
  | _ => none }
def UnfoldSmallestWrongFalsely : Prop := unfoldSmallestRow.holds Tryz.pinned (OpenSpec.ofChange unfoldSmallestWrong)

/-- 'familychecklaw03.UnfoldReachRun': WHATEVER THE INPUT: true; the input reads as it did. -/
def unfoldReachRunSpec : ChangeSpec := { name := "unfoldReachRun", fn := fun _ => fun
  | [d1, d2] => { results := [.lit (.bool true)], args := [d1, d2] }
  | _ => none }
def unfoldReachRunRow : OpenClaim := { program := "ytboelimimjojoaagreatdoor", sum := "1feda3302294f5db9ad76a08ca870ebadfa7c2fdcafbf8e1932f7be0c4c4d2b8", func := "familycheck/familychecklaw03.UnfoldReachRun", spec := "unfoldReachRun", unfollowed := true, recurses := true, named := ["strings.asciiSpace", "unicode.White_Space"], apart := false, laid := [("unicode.White_Space", laid_unicode_White_Space), ("strings.asciiSpace", laid_strings_asciiSpace)] }
def UnfoldReachRunSaid : Prop := unfoldReachRunRow.holds Tryz.pinned (OpenSpec.ofChange unfoldReachRunSpec)

/-- ITS FALSE NEIGHBOUR: 'it returns false'. Refute it at one input. -/
def unfoldReachRunWrong : ChangeSpec := { name := "unfoldReachRun", fn := fun _ => fun
  | [d1, d2] => { results := [.lit (.bool false)], args := [d1, d2] }
  | _ => none }
def UnfoldReachRunWrongFalsely : Prop := unfoldReachRunRow.holds Tryz.pinned (OpenSpec.ofChange unfoldReachRunWrong)

/-- 'familychecklaw03.UnfoldReachClosed': WHATEVER THE INPUT: true; the input reads as it did. -/
def unfoldReachClosedSpec : ChangeSpec := { name := "unfoldReachClosed", fn := fun _ => fun
  | [d] => { results := [.lit (.bool true)], args := [d] }
  | _ => none }
def unfoldReachClosedRow : OpenClaim := { program := "ytboelimimjojoaagreatdoor", sum := "1feda3302294f5db9ad76a08ca870ebadfa7c2fdcafbf8e1932f7be0c4c4d2b8", func := "familycheck/familychecklaw03.UnfoldReachClosed", spec := "unfoldReachClosed", unfollowed := true, recurses := true, named := ["strings.asciiSpace", "unicode.White_Space"], apart := false, laid := [("unicode.White_Space", laid_unicode_White_Space), ("strings.asciiSpace", laid_strings_asciiSpace)] }
def UnfoldReachClosedSaid : Prop := unfoldReachClosedRow.holds Tryz.pinned (OpenSpec.ofChange unfoldReachClosedSpec)

/-- ITS FALSE NEIGHBOUR: 'it returns false'. Refute it at one input. -/
def unfoldReachClosedWrong : ChangeSpec := { name := "unfoldReachClosed", fn := fun _ => fun
  | [d] => { results := [.lit (.bool false)], args := [d] }
  | _ => none }
def UnfoldReachClosedWrongFalsely : Prop := unfoldReachClosedRow.holds Tryz.pinned (OpenSpec.ofChange unfoldReachClosedWrong)

/-- 'familychecklaw03.UnfoldNoShorter': WHATEVER THE INPUT: true; the input reads as it did. -/
def unfoldNoShorterSpec : ChangeSpec := { name := "unfoldNoShorter", fn := fun _ => fun
  | [d1, d2] => { results := [.lit (.bool true)], args := [d1, d2] }
  | _ => none }
def unfoldNoShorterRow : OpenClaim := { program := "ytboelimimjojoaagreatdoor", sum := "1feda3302294f5db9ad76a08ca870ebadfa7c2fdcafbf8e1932f7be0c4c4d2b8", func := "familycheck/familychecklaw03.UnfoldNoShorter", spec := "unfoldNoShorter", unfollowed := true, recurses := true, named := ["strings.asciiSpace", "unicode.White_Space"], apart := false, laid := [("unicode.White_Space", laid_unicode_White_Space), ("strings.asciiSpace", laid_strings_asciiSpace)] }
def UnfoldNoShorterSaid : Prop := unfoldNoShorterRow.holds Tryz.pinned (OpenSpec.ofChange unfoldNoShorterSpec)

/-- ITS FALSE NEIGHBOUR: 'it returns false'. Refute it at one input. -/
def unfoldNoShorterWrong : ChangeSpec := { name := "unfoldNoShorter", fn := fun _ => fun
  | [d1, d2] => { results := [.lit (.bool false)], args := [d1, d2] }
  | _ => none }
def UnfoldNoShorterWrongFalsely : Prop := unfoldNoShorterRow.holds Tryz.pinned (OpenSpec.ofChange unfoldNoShorterWrong)

/- THE SECOND FORM. 'bulk': how many values and letters a reading holds, each counted each time it is reached (what is shared counts as often as it is met; a slice's spare places count too). A statement '..UptoSaid' is the law's where the arguments, and the package variables that the reading takes, are together of bulk at most 1048576: NARROWER than '..Said'. Prove '..Said' where nothing that the law and all that it calls make is longer than what came in: it says more and counts as full. Else prove '..UptoSaid'. A law counts once. -/
mutual
def uptoBulk {H : Type} : DataW H → Nat
  | .lit (.string bytes) => bytes.length + 1
  | .lit _ => 1
  | .nil => 1
  | .ptr d => uptoBulk d + 1
  | .slice elems spare => uptoBulkAll elems + uptoBulkAll spare + 1
  | .agg parts => uptoBulkAll parts + 1
  | .iface _ d => uptoBulk d + 1
  | .map entries => uptoBulkEntries entries + 1
  | .held _ => 1
def uptoBulkAll {H : Type} : List (DataW H) → Nat
  | [] => 0
  | d :: r => uptoBulk d + uptoBulkAll r
def uptoBulkEntries {H : Type} : List (Lit × DataW H) → Nat
  | [] => 0
  | x :: r => uptoBulkEntry x + uptoBulkEntries r
def uptoBulkEntry {H : Type} : Lit × DataW H → Nat
  | (.string bytes, d) => bytes.length + uptoBulk d + 1
  | (_, d) => uptoBulk d + 1
 end
def uptoSmall : (H : Type) → List (DataW H) → Bool := fun _ ds => decide (uptoBulkAll ds ≤ 1048576)
def OpenSpec.upto (s : _root_.Go.ChangeSpec) : _root_.Go.OpenSpec := { _root_.Go.OpenSpec.ofChange s with cond := some uptoSmall }

/-- 'familychecktop.TopRuns', WHERE WHAT IT READS IS OF BULK AT MOST 1048576: true; the input reads as it did. -/
def topRunsUptoRow : OpenClaim := { program := "ytboelimimjojoaagreatdoor", sum := "1feda3302294f5db9ad76a08ca870ebadfa7c2fdcafbf8e1932f7be0c4c4d2b8", func := "familycheck/familychecktop.TopRuns", spec := "topRuns", unfollowed := true, recurses := true, named := ["strings.asciiSpace", "unicode.White_Space"], apart := false, laid := [("unicode.White_Space", laid_unicode_White_Space), ("strings.asciiSpace", laid_strings_asciiSpace)], narrowed := true }
def TopRunsUptoSaid : Prop := topRunsUptoRow.holds Tryz.pinned (OpenSpec.upto topRunsSpec)

/-- 'familychecklaw03.UnfoldReaches', WHERE WHAT IT READS IS OF BULK AT MOST 1048576: true; the input reads as it did. -/
def unfoldReachesUptoRow : OpenClaim := { program := "ytboelimimjojoaagreatdoor", sum := "1feda3302294f5db9ad76a08ca870ebadfa7c2fdcafbf8e1932f7be0c4c4d2b8", func := "familycheck/familychecklaw03.UnfoldReaches", spec := "unfoldReaches", unfollowed := true, recurses := true, named := ["strings.asciiSpace", "unicode.White_Space"], apart := false, laid := [("unicode.White_Space", laid_unicode_White_Space), ("strings.asciiSpace", laid_strings_asciiSpace)], narrowed := true }
def UnfoldReachesUptoSaid : Prop := unfoldReachesUptoRow.holds Tryz.pinned (OpenSpec.upto unfoldReachesSpec)

/-- 'familychecklaw03.UnfoldShortest', WHERE WHAT IT READS IS OF BULK AT MOST 1048576: true; the input reads as it did. -/
def unfoldShortestUptoRow : OpenClaim := { program := "ytboelimimjojoaagreatdoor", sum := "1feda3302294f5db9ad76a08ca870ebadfa7c2fdcafbf8e1932f7be0c4c4d2b8", func := "familycheck/familychecklaw03.UnfoldShortest", spec := "unfoldShortest", unfollowed := true, recurses := true, named := ["strings.asciiSpace", "unicode.White_Space"], apart := false, laid := [("unicode.White_Space", laid_unicode_White_Space), ("strings.asciiSpace", laid_strings_asciiSpace)], narrowed := true }
def UnfoldShortestUptoSaid : Prop := unfoldShortestUptoRow.holds Tryz.pinned (OpenSpec.upto unfoldShortestSpec)

/-- 'familychecklaw03.UnfoldSmallest', WHERE WHAT IT READS IS OF BULK AT MOST 1048576: true; the input reads as it did. -/
def unfoldSmallestUptoRow : OpenClaim := { program := "ytboelimimjojoaagreatdoor", sum := "1feda3302294f5db9ad76a08ca870ebadfa7c2fdcafbf8e1932f7be0c4c4d2b8", func := "familycheck/familychecklaw03.UnfoldSmallest", spec := "unfoldSmallest", unfollowed := true, recurses := true, named := ["strings.asciiSpace", "unicode.White_Space"], apart := false, laid := [("unicode.White_Space", laid_unicode_White_Space), ("strings.asciiSpace", laid_strings_asciiSpace)], narrowed := true }
def UnfoldSmallestUptoSaid : Prop := unfoldSmallestUptoRow.holds Tryz.pinned (OpenSpec.upto unfoldSmallestSpec)

/-- 'familychecklaw03.UnfoldReachRun', WHERE WHAT IT READS IS OF BULK AT MOST 1048576: true; the input reads as it did. -/
def unfoldReachRunUptoRow : OpenClaim := { program := "ytboelimimjojoaagreatdoor", sum := "1feda3302294f5db9ad76a08ca870ebadfa7c2fdcafbf8e1932f7be0c4c4d2b8", func := "familycheck/familychecklaw03.UnfoldReachRun", spec := "unfoldReachRun", unfollowed := true, recurses := true, named := ["strings.asciiSpace", "unicode.White_Space"], apart := false, laid := [("unicode.White_Space", laid_unicode_White_Space), ("strings.asciiSpace", laid_strings_asciiSpace)], narrowed := true }
def UnfoldReachRunUptoSaid : Prop := unfoldReachRunUptoRow.holds Tryz.pinned (OpenSpec.upto unfoldReachRunSpec)

/-- 'familychecklaw03.UnfoldReachClosed', WHERE WHAT IT READS IS OF BULK AT MOST 1048576: true; the input reads as it did. -/
def unfoldReachClosedUptoRow : OpenClaim := { program := "ytboelimimjojoaagreatdoor", sum := "1feda3302294f5db9ad76a08ca870ebadfa7c2fdcafbf8e1932f7be0c4c4d2b8", func := "familycheck/familychecklaw03.UnfoldReachClosed", spec := "unfoldReachClosed", unfollowed := true, recurses := true, named := ["strings.asciiSpace", "unicode.White_Space"], apart := false, laid := [("unicode.White_Space", laid_unicode_White_Space), ("strings.asciiSpace", laid_strings_asciiSpace)], narrowed := true }
def UnfoldReachClosedUptoSaid : Prop := unfoldReachClosedUptoRow.holds Tryz.pinned (OpenSpec.upto unfoldReachClosedSpec)

/-- 'familychecklaw03.UnfoldNoShorter', WHERE WHAT IT READS IS OF BULK AT MOST 1048576: true; the input reads as it did. -/
def unfoldNoShorterUptoRow : OpenClaim := { program := "ytboelimimjojoaagreatdoor", sum := "1feda3302294f5db9ad76a08ca870ebadfa7c2fdcafbf8e1932f7be0c4c4d2b8", func := "familycheck/familychecklaw03.UnfoldNoShorter", spec := "unfoldNoShorter", unfollowed := true, recurses := true, named := ["strings.asciiSpace", "unicode.White_Space"], apart := false, laid := [("unicode.White_Space", laid_unicode_White_Space), ("strings.asciiSpace", laid_strings_asciiSpace)], narrowed := true }
def UnfoldNoShorterUptoSaid : Prop := unfoldNoShorterUptoRow.holds Tryz.pinned (OpenSpec.upto unfoldNoShorterSpec)

end Rows
end Go.Proofs.YtboelimimjojoaaGreatDoor
