/-
  NARROWER THAN 'FOR EVERY INPUT', by the rows' own cells (each row's printed sentence says how): ThresholdProves: laid · ThresholdStops: laid · ThresholdSolutions: laid · ThresholdRuns: laid · ThresholdFeasible: laid · ThresholdReorders: laid.
  DERIVED. THE GIVEN ROWS OF THIS SEAT. 6 by the template 'for every input the law returns true; each argument reads behind the call as it read before'; 0 by the template 'total and deterministic' (their statements: YtekmminpfhacpaaGreatDoorTotals.lean).
  GIVEN WITH THE SEED: the statements are not yours to turn. If you find one false, say at which input.
  Laid BY PROGRAM, IN A SANDBOX (cutbox-rows.mjs): the forced cells as the released guide's own fill.sh prints them over the translation f493daada7afe871… (all of the seat's roots in one cut). By AI agents, Wed Nov 11 2026. No macro, syntax, notation, axiom, sorry.
-/
import Derived.Test.YtekmminpfhacpaaGreatDoorChecked
import GoSem.Claim
import GoSem.ClaimJoined
import GoSem.ClaimMapViews
import Derived.JoinedTies
import Derived.KernelRfl
namespace Go.Proofs.YtekmminpfhacpaaGreatDoor
/- THE CELL 'sum', in the pinned program and in every row, IS THE sha256 OF THE DUMP (.gsa) THAT YtekmminpfhacpaaGreatDoorProg.lean LOADS. Nothing in Lean hashes anything: it is a label: what it is worth is what the hold of that sum in a sandbox is worth. -/
noncomputable def Tryz.pinned : Pinned := { name := "ytekmminpfhacpaagreatdoor", sum := "f493daada7afe871588f6dd3104cdbed74c7bef2f9e08ecaf20d3bcdc6be0406", checked := Tryz.checked }
namespace Rows
def none {H : Type} : Left H := { results := [], args := [] }

/- WHAT THE LISTED PACKAGE-LEVEL VARIABLES READ AS WHEN THE CALL BEGINS. Each datum BY PROGRAM (the guide's laid-datum.mjs) off the statement by which the dump's own 'gosem.cut.vars' lays the variable. In a bare row this is a premise. The card (YtekmminpfhacpaaGreatDoorCards.lean) ties it to the program's text. -/
def laid_unicode_White_Space {H : Type} : DataW H := .ptr (.agg [.slice [.agg [.lit (.int .u16 9), .lit (.int .u16 13), .lit (.int .u16 1)], .agg [.lit (.int .u16 32), .lit (.int .u16 133), .lit (.int .u16 101)], .agg [.lit (.int .u16 160), .lit (.int .u16 5760), .lit (.int .u16 5600)], .agg [.lit (.int .u16 8192), .lit (.int .u16 8202), .lit (.int .u16 1)], .agg [.lit (.int .u16 8232), .lit (.int .u16 8233), .lit (.int .u16 1)], .agg [.lit (.int .u16 8239), .lit (.int .u16 8287), .lit (.int .u16 48)], .agg [.lit (.int .u16 12288), .lit (.int .u16 12288), .lit (.int .u16 1)]] [], .nil, .lit (.int .i64 2)])
def laid_strings_asciiSpace {H : Type} : DataW H := .agg [.lit (.int .u8 0), .lit (.int .u8 0), .lit (.int .u8 0), .lit (.int .u8 0), .lit (.int .u8 0), .lit (.int .u8 0), .lit (.int .u8 0), .lit (.int .u8 0), .lit (.int .u8 0), .lit (.int .u8 1), .lit (.int .u8 1), .lit (.int .u8 1), .lit (.int .u8 1), .lit (.int .u8 1), .lit (.int .u8 0), .lit (.int .u8 0), .lit (.int .u8 0), .lit (.int .u8 0), .lit (.int .u8 0), .lit (.int .u8 0), .lit (.int .u8 0), .lit (.int .u8 0), .lit (.int .u8 0), .lit (.int .u8 0), .lit (.int .u8 0), .lit (.int .u8 0), .lit (.int .u8 0), .lit (.int .u8 0), .lit (.int .u8 0), .lit (.int .u8 0), .lit (.int .u8 0), .lit (.int .u8 0), .lit (.int .u8 1), .lit (.int .u8 0), .lit (.int .u8 0), .lit (.int .u8 0), .lit (.int .u8 0), .lit (.int .u8 0), .lit (.int .u8 0), .lit (.int .u8 0), .lit (.int .u8 0), .lit (.int .u8 0), .lit (.int .u8 0), .lit (.int .u8 0), .lit (.int .u8 0), .lit (.int .u8 0), .lit (.int .u8 0), .lit (.int .u8 0), .lit (.int .u8 0), .lit (.int .u8 0), .lit (.int .u8 0), .lit (.int .u8 0), .lit (.int .u8 0), .lit (.int .u8 0), .lit (.int .u8 0), .lit (.int .u8 0), .lit (.int .u8 0), .lit (.int .u8 0), .lit (.int .u8 0), .lit (.int .u8 0), .lit (.int .u8 0), .lit (.int .u8 0), .lit (.int .u8 0), .lit (.int .u8 0), .lit (.int .u8 0), .lit (.int .u8 0), .lit (.int .u8 0), .lit (.int .u8 0), .lit (.int .u8 0), .lit (.int .u8 0), .lit (.int .u8 0), .lit (.int .u8 0), .lit (.int .u8 0), .lit (.int .u8 0), .lit (.int .u8 0), .lit (.int .u8 0), .lit (.int .u8 0), .lit (.int .u8 0), .lit (.int .u8 0), .lit (.int .u8 0), .lit (.int .u8 0), .lit (.int .u8 0), .lit (.int .u8 0), .lit (.int .u8 0), .lit (.int .u8 0), .lit (.int .u8 0), .lit (.int .u8 0), .lit (.int .u8 0), .lit (.int .u8 0), .lit (.int .u8 0), .lit (.int .u8 0), .lit (.int .u8 0), .lit (.int .u8 0), .lit (.int .u8 0), .lit (.int .u8 0), .lit (.int .u8 0), .lit (.int .u8 0), .lit (.int .u8 0), .lit (.int .u8 0), .lit (.int .u8 0), .lit (.int .u8 0), .lit (.int .u8 0), .lit (.int .u8 0), .lit (.int .u8 0), .lit (.int .u8 0), .lit (.int .u8 0), .lit (.int .u8 0), .lit (.int .u8 0), .lit (.int .u8 0), .lit (.int .u8 0), .lit (.int .u8 0), .lit (.int .u8 0), .lit (.int .u8 0), .lit (.int .u8 0), .lit (.int .u8 0), .lit (.int .u8 0), .lit (.int .u8 0), .lit (.int .u8 0), .lit (.int .u8 0), .lit (.int .u8 0), .lit (.int .u8 0), .lit (.int .u8 0), .lit (.int .u8 0), .lit (.int .u8 0), .lit (.int .u8 0), .lit (.int .u8 0), .lit (.int .u8 0), .lit (.int .u8 0), .lit (.int .u8 0), .lit (.int .u8 0), .lit (.int .u8 0), .lit (.int .u8 0), .lit (.int .u8 0), .lit (.int .u8 0), .lit (.int .u8 0), .lit (.int .u8 0), .lit (.int .u8 0), .lit (.int .u8 0), .lit (.int .u8 0), .lit (.int .u8 0), .lit (.int .u8 0), .lit (.int .u8 0), .lit (.int .u8 0), .lit (.int .u8 0), .lit (.int .u8 0), .lit (.int .u8 0), .lit (.int .u8 0), .lit (.int .u8 0), .lit (.int .u8 0), .lit (.int .u8 0), .lit (.int .u8 0), .lit (.int .u8 0), .lit (.int .u8 0), .lit (.int .u8 0), .lit (.int .u8 0), .lit (.int .u8 0), .lit (.int .u8 0), .lit (.int .u8 0), .lit (.int .u8 0), .lit (.int .u8 0), .lit (.int .u8 0), .lit (.int .u8 0), .lit (.int .u8 0), .lit (.int .u8 0), .lit (.int .u8 0), .lit (.int .u8 0), .lit (.int .u8 0), .lit (.int .u8 0), .lit (.int .u8 0), .lit (.int .u8 0), .lit (.int .u8 0), .lit (.int .u8 0), .lit (.int .u8 0), .lit (.int .u8 0), .lit (.int .u8 0), .lit (.int .u8 0), .lit (.int .u8 0), .lit (.int .u8 0), .lit (.int .u8 0), .lit (.int .u8 0), .lit (.int .u8 0), .lit (.int .u8 0), .lit (.int .u8 0), .lit (.int .u8 0), .lit (.int .u8 0), .lit (.int .u8 0), .lit (.int .u8 0), .lit (.int .u8 0), .lit (.int .u8 0), .lit (.int .u8 0), .lit (.int .u8 0), .lit (.int .u8 0), .lit (.int .u8 0), .lit (.int .u8 0), .lit (.int .u8 0), .lit (.int .u8 0), .lit (.int .u8 0), .lit (.int .u8 0), .lit (.int .u8 0), .lit (.int .u8 0), .lit (.int .u8 0), .lit (.int .u8 0), .lit (.int .u8 0), .lit (.int .u8 0), .lit (.int .u8 0), .lit (.int .u8 0), .lit (.int .u8 0), .lit (.int .u8 0), .lit (.int .u8 0), .lit (.int .u8 0), .lit (.int .u8 0), .lit (.int .u8 0), .lit (.int .u8 0), .lit (.int .u8 0), .lit (.int .u8 0), .lit (.int .u8 0), .lit (.int .u8 0), .lit (.int .u8 0), .lit (.int .u8 0), .lit (.int .u8 0), .lit (.int .u8 0), .lit (.int .u8 0), .lit (.int .u8 0), .lit (.int .u8 0), .lit (.int .u8 0), .lit (.int .u8 0), .lit (.int .u8 0), .lit (.int .u8 0), .lit (.int .u8 0), .lit (.int .u8 0), .lit (.int .u8 0), .lit (.int .u8 0), .lit (.int .u8 0), .lit (.int .u8 0), .lit (.int .u8 0), .lit (.int .u8 0), .lit (.int .u8 0), .lit (.int .u8 0), .lit (.int .u8 0), .lit (.int .u8 0), .lit (.int .u8 0), .lit (.int .u8 0), .lit (.int .u8 0), .lit (.int .u8 0), .lit (.int .u8 0), .lit (.int .u8 0), .lit (.int .u8 0), .lit (.int .u8 0), .lit (.int .u8 0), .lit (.int .u8 0), .lit (.int .u8 0), .lit (.int .u8 0), .lit (.int .u8 0), .lit (.int .u8 0), .lit (.int .u8 0), .lit (.int .u8 0)]

/-- 'familychecklaw04.ThresholdProves': WHATEVER THE INPUT: true; the input reads as it did. -/
def thresholdProvesSpec : ChangeSpec := { name := "thresholdProves", fn := fun _ => fun
  | [d1, d2] => { results := [.lit (.bool true)], args := [d1, d2] }
  | _ => none }
def thresholdProvesRow : OpenClaim := { program := "ytekmminpfhacpaagreatdoor", sum := "f493daada7afe871588f6dd3104cdbed74c7bef2f9e08ecaf20d3bcdc6be0406", func := "familycheck/familychecklaw04.ThresholdProves", spec := "thresholdProves", unfollowed := true, recurses := true, named := ["strings.asciiSpace", "unicode.White_Space"], plainKeys := false, apart := false, laid := [("unicode.White_Space", laid_unicode_White_Space), ("strings.asciiSpace", laid_strings_asciiSpace)] }
def ThresholdProvesSaid : Prop := thresholdProvesRow.holds Tryz.pinned (OpenSpec.ofChange thresholdProvesSpec)

/-- ITS FALSE NEIGHBOUR: 'it returns false'. Refute it at one input. -/
def thresholdProvesWrong : ChangeSpec := { name := "thresholdProves", fn := fun _ => fun
  | [d1, d2] => { results := [.lit (.bool false)], args := [d1, d2] }
  | _ => none }
def ThresholdProvesWrongFalsely : Prop := thresholdProvesRow.holds Tryz.pinned (OpenSpec.ofChange thresholdProvesWrong)

/-- 'familychecklaw04.ThresholdStops': WHATEVER THE INPUT: true; the input reads as it did. -/
def thresholdStopsSpec : ChangeSpec := { name := "thresholdStops", fn := fun _ => fun
  | [d1, d2, d3] => { results := [.lit (.bool true)], args := [d1, d2, d3] }
  | _ => none }
def thresholdStopsRow : OpenClaim := { program := "ytekmminpfhacpaagreatdoor", sum := "f493daada7afe871588f6dd3104cdbed74c7bef2f9e08ecaf20d3bcdc6be0406", func := "familycheck/familychecklaw04.ThresholdStops", spec := "thresholdStops", unfollowed := true, recurses := true, named := ["strings.asciiSpace", "unicode.White_Space"], plainKeys := false, apart := false, laid := [("unicode.White_Space", laid_unicode_White_Space), ("strings.asciiSpace", laid_strings_asciiSpace)] }
def ThresholdStopsSaid : Prop := thresholdStopsRow.holds Tryz.pinned (OpenSpec.ofChange thresholdStopsSpec)

/-- ITS FALSE NEIGHBOUR: 'it returns false'. Refute it at one input. -/
def thresholdStopsWrong : ChangeSpec := { name := "thresholdStops", fn := fun _ => fun
  | [d1, d2, d3] => { results := [.lit (.bool false)], args := [d1, d2, d3] }
  | _ => none }
def ThresholdStopsWrongFalsely : Prop := thresholdStopsRow.holds Tryz.pinned (OpenSpec.ofChange thresholdStopsWrong)

/-- 'familychecklaw04.ThresholdSolutions': WHATEVER THE INPUT: true; the input reads as it did. -/
def thresholdSolutionsSpec : ChangeSpec := { name := "thresholdSolutions", fn := fun _ => fun
  | [d1, d2, d3] => { results := [.lit (.bool true)], args := [d1, d2, d3] }
  | _ => none }
def thresholdSolutionsRow : OpenClaim := { program := "ytekmminpfhacpaagreatdoor", sum := "f493daada7afe871588f6dd3104cdbed74c7bef2f9e08ecaf20d3bcdc6be0406", func := "familycheck/familychecklaw04.ThresholdSolutions", spec := "thresholdSolutions", unfollowed := true, recurses := true, named := ["strings.asciiSpace", "unicode.White_Space"], plainKeys := false, apart := false, laid := [("unicode.White_Space", laid_unicode_White_Space), ("strings.asciiSpace", laid_strings_asciiSpace)] }
def ThresholdSolutionsSaid : Prop := thresholdSolutionsRow.holds Tryz.pinned (OpenSpec.ofChange thresholdSolutionsSpec)

/-- ITS FALSE NEIGHBOUR: 'it returns false'. Refute it at one input. -/
def thresholdSolutionsWrong : ChangeSpec := { name := "thresholdSolutions", fn := fun _ => fun
  | [d1, d2, d3] => { results := [.lit (.bool false)], args := [d1, d2, d3] }
  | _ => none }
def ThresholdSolutionsWrongFalsely : Prop := thresholdSolutionsRow.holds Tryz.pinned (OpenSpec.ofChange thresholdSolutionsWrong)

/-- 'familychecklaw04.ThresholdRuns': WHATEVER THE INPUT: true; the input reads as it did. -/
def thresholdRunsSpec : ChangeSpec := { name := "thresholdRuns", fn := fun _ => fun
  | [d1, d2, d3] => { results := [.lit (.bool true)], args := [d1, d2, d3] }
  | _ => none }
def thresholdRunsRow : OpenClaim := { program := "ytekmminpfhacpaagreatdoor", sum := "f493daada7afe871588f6dd3104cdbed74c7bef2f9e08ecaf20d3bcdc6be0406", func := "familycheck/familychecklaw04.ThresholdRuns", spec := "thresholdRuns", unfollowed := true, recurses := true, named := ["strings.asciiSpace", "unicode.White_Space"], plainKeys := false, apart := false, laid := [("unicode.White_Space", laid_unicode_White_Space), ("strings.asciiSpace", laid_strings_asciiSpace)] }
def ThresholdRunsSaid : Prop := thresholdRunsRow.holds Tryz.pinned (OpenSpec.ofChange thresholdRunsSpec)

/-- ITS FALSE NEIGHBOUR: 'it returns false'. Refute it at one input. -/
def thresholdRunsWrong : ChangeSpec := { name := "thresholdRuns", fn := fun _ => fun
  | [d1, d2, d3] => { results := [.lit (.bool false)], args := [d1, d2, d3] }
  | _ => none }
def ThresholdRunsWrongFalsely : Prop := thresholdRunsRow.holds Tryz.pinned (OpenSpec.ofChange thresholdRunsWrong)

/-- 'familychecklaw04.ThresholdFeasible': WHATEVER THE INPUT: true; the input reads as it did. -/
def thresholdFeasibleSpec : ChangeSpec := { name := "thresholdFeasible", fn := fun _ => fun
  | [d1, d2, d3] => { results := [.lit (.bool true)], args := [d1, d2, d3] }
  | _ => none }
def thresholdFeasibleRow : OpenClaim := { program := "ytekmminpfhacpaagreatdoor", sum := "f493daada7afe871588f6dd3104cdbed74c7bef2f9e08ecaf20d3bcdc6be0406", func := "familycheck/familychecklaw04.ThresholdFeasible", spec := "thresholdFeasible", unfollowed := true, recurses := true, named := ["strings.asciiSpace", "unicode.White_Space"], plainKeys := false, apart := false, laid := [("unicode.White_Space", laid_unicode_White_Space), ("strings.asciiSpace", laid_strings_asciiSpace)] }
def ThresholdFeasibleSaid : Prop := thresholdFeasibleRow.holds Tryz.pinned (OpenSpec.ofChange thresholdFeasibleSpec)

/-- ITS FALSE NEIGHBOUR: 'it returns false'. Refute it at one input. -/
def thresholdFeasibleWrong : ChangeSpec := { name := "thresholdFeasible", fn := fun _ => fun
  | [d1, d2, d3] => { results := [.lit (.bool false)], args := [d1, d2, d3] }
  | _ => none }
def ThresholdFeasibleWrongFalsely : Prop := thresholdFeasibleRow.holds Tryz.pinned (OpenSpec.ofChange thresholdFeasibleWrong)

/-- 'familychecklaw04.ThresholdReorders': WHATEVER THE INPUT: true; the input reads as it did. -/
def thresholdReordersSpec : ChangeSpec := { name := "thresholdReorders", fn := fun _ => fun
  | [d1, d2, d3] => { results := [.lit (.bool true)], args := [d1, d2, d3] }
  | _ => none }
def thresholdReordersRow : OpenClaim := { program := "ytekmminpfhacpaagreatdoor", sum := "f493daada7afe871588f6dd3104cdbed74c7bef2f9e08ecaf20d3bcdc6be0406", func := "familycheck/familychecklaw04.ThresholdReorders", spec := "thresholdReorders", unfollowed := true, recurses := true, named := ["strings.asciiSpace", "unicode.White_Space"], plainKeys := false, apart := false, laid := [("unicode.White_Space", laid_unicode_White_Space), ("strings.asciiSpace", laid_strings_asciiSpace)] }
def ThresholdReordersSaid : Prop := thresholdReordersRow.holds Tryz.pinned (OpenSpec.ofChange thresholdReordersSpec)

/-- ITS FALSE NEIGHBOUR: 'it returns false'. Refute it at one input. -/
def thresholdReordersWrong : ChangeSpec := { name := "thresholdReorders", fn := fun _ => fun
  | [d1, d2, d3] => { results := [.lit (.bool false)], args := [d1, d2, d3] }
  | _ => none }
def ThresholdReordersWrongFalsely : Prop := thresholdReordersRow.holds Tryz.pinned (OpenSpec.ofChange thresholdReordersWrong)

/- THE SECOND FORM. 'bulk': how many values and letters a reading holds, each counted each time it is reached (what is shared counts as often as it is met; a slice's spare places count too). A statement '..UptoSaid' is the law's where the arguments, and the package variables that the reading takes, are together of bulk at most 1048576: NARROWER than '..Said'. Prove '..Said' where nothing that the law and all that it calls make is longer than what came in: it says more and counts as full. Else prove '..UptoSaid'. A law counts once. -/
mutual
def uptoBulk {H : Type} : DataW H → Nat
  | .lit (.string bytes) => bytes.length + 1
  | .lit _ => 1
  | .nil => 1
  | .ptr d => uptoBulk d + 1
  | .slice elems spare => uptoBulkAll elems + uptoBulkAll spare + 1
  | .agg parts => uptoBulkAll parts + 1
  | .iface _ d => uptoBulk d + 1
  | .map entries => uptoBulkEntries entries + 1
  | .held _ => 1
def uptoBulkAll {H : Type} : List (DataW H) → Nat
  | [] => 0
  | d :: r => uptoBulk d + uptoBulkAll r
def uptoBulkEntries {H : Type} : List (Lit × DataW H) → Nat
  | [] => 0
  | x :: r => uptoBulkEntry x + uptoBulkEntries r
def uptoBulkEntry {H : Type} : Lit × DataW H → Nat
  | (.string bytes, d) => bytes.length + uptoBulk d + 1
  | (_, d) => uptoBulk d + 1
 end
def uptoSmall : (H : Type) → List (DataW H) → Bool := fun _ ds => decide (uptoBulkAll ds ≤ 1048576)
def OpenSpec.upto (s : _root_.Go.ChangeSpec) : _root_.Go.OpenSpec := { _root_.Go.OpenSpec.ofChange s with cond := some uptoSmall }

/-- 'familychecklaw04.ThresholdProves', WHERE WHAT IT READS IS OF BULK AT MOST 1048576: true; the input reads as it did. -/
def thresholdProvesUptoRow : OpenClaim := { program := "ytekmminpfhacpaagreatdoor", sum := "f493daada7afe871588f6dd3104cdbed74c7bef2f9e08ecaf20d3bcdc6be0406", func := "familycheck/familychecklaw04.ThresholdProves", spec := "thresholdProves", unfollowed := true, recurses := true, named := ["strings.asciiSpace", "unicode.White_Space"], plainKeys := false, apart := false, laid := [("unicode.White_Space", laid_unicode_White_Space), ("strings.asciiSpace", laid_strings_asciiSpace)], narrowed := true }
def ThresholdProvesUptoSaid : Prop := thresholdProvesUptoRow.holds Tryz.pinned (OpenSpec.upto thresholdProvesSpec)

/-- 'familychecklaw04.ThresholdStops', WHERE WHAT IT READS IS OF BULK AT MOST 1048576: true; the input reads as it did. -/
def thresholdStopsUptoRow : OpenClaim := { program := "ytekmminpfhacpaagreatdoor", sum := "f493daada7afe871588f6dd3104cdbed74c7bef2f9e08ecaf20d3bcdc6be0406", func := "familycheck/familychecklaw04.ThresholdStops", spec := "thresholdStops", unfollowed := true, recurses := true, named := ["strings.asciiSpace", "unicode.White_Space"], plainKeys := false, apart := false, laid := [("unicode.White_Space", laid_unicode_White_Space), ("strings.asciiSpace", laid_strings_asciiSpace)], narrowed := true }
def ThresholdStopsUptoSaid : Prop := thresholdStopsUptoRow.holds Tryz.pinned (OpenSpec.upto thresholdStopsSpec)

/-- 'familychecklaw04.ThresholdSolutions', WHERE WHAT IT READS IS OF BULK AT MOST 1048576: true; the input reads as it did. -/
def thresholdSolutionsUptoRow : OpenClaim := { program := "ytekmminpfhacpaagreatdoor", sum := "f493daada7afe871588f6dd3104cdbed74c7bef2f9e08ecaf20d3bcdc6be0406", func := "familycheck/familychecklaw04.ThresholdSolutions", spec := "thresholdSolutions", unfollowed := true, recurses := true, named := ["strings.asciiSpace", "unicode.White_Space"], plainKeys := false, apart := false, laid := [("unicode.White_Space", laid_unicode_White_Space), ("strings.asciiSpace", laid_strings_asciiSpace)], narrowed := true }
def ThresholdSolutionsUptoSaid : Prop := thresholdSolutionsUptoRow.holds Tryz.pinned (OpenSpec.upto thresholdSolutionsSpec)

/-- 'familychecklaw04.ThresholdRuns', WHERE WHAT IT READS IS OF BULK AT MOST 1048576: true; the input reads as it did. -/
def thresholdRunsUptoRow : OpenClaim := { program := "ytekmminpfhacpaagreatdoor", sum := "f493daada7afe871588f6dd3104cdbed74c7bef2f9e08ecaf20d3bcdc6be0406", func := "familycheck/familychecklaw04.ThresholdRuns", spec := "thresholdRuns", unfollowed := true, recurses := true, named := ["strings.asciiSpace", "unicode.White_Space"], plainKeys := false, apart := false, laid := [("unicode.White_Space", laid_unicode_White_Space), ("strings.asciiSpace", laid_strings_asciiSpace)], narrowed := true }
def ThresholdRunsUptoSaid : Prop := thresholdRunsUptoRow.holds Tryz.pinned (OpenSpec.upto thresholdRunsSpec)

/-- 'familychecklaw04.ThresholdFeasible', WHERE WHAT IT READS IS OF BULK AT MOST 1048576: true; the input reads as it did. -/
def thresholdFeasibleUptoRow : OpenClaim := { program := "ytekmminpfhacpaagreatdoor", sum := "f493daada7afe871588f6dd3104cdbed74c7bef2f9e08ecaf20d3bcdc6be0406", func := "familycheck/familychecklaw04.ThresholdFeasible", spec := "thresholdFeasible", unfollowed := true, recurses := true, named := ["strings.asciiSpace", "unicode.White_Space"], plainKeys := false, apart := false, laid := [("unicode.White_Space", laid_unicode_White_Space), ("strings.asciiSpace", laid_strings_asciiSpace)], narrowed := true }
def ThresholdFeasibleUptoSaid : Prop := thresholdFeasibleUptoRow.holds Tryz.pinned (OpenSpec.upto thresholdFeasibleSpec)

/-- 'familychecklaw04.ThresholdReorders', WHERE WHAT IT READS IS OF BULK AT MOST 1048576: true; the input reads as it did. -/
def thresholdReordersUptoRow : OpenClaim := { program := "ytekmminpfhacpaagreatdoor", sum := "f493daada7afe871588f6dd3104cdbed74c7bef2f9e08ecaf20d3bcdc6be0406", func := "familycheck/familychecklaw04.ThresholdReorders", spec := "thresholdReorders", unfollowed := true, recurses := true, named := ["strings.asciiSpace", "unicode.White_Space"], plainKeys := false, apart := false, laid := [("unicode.White_Space", laid_unicode_White_Space), ("strings.asciiSpace", laid_strings_asciiSpace)], narrowed := true }
def ThresholdReordersUptoSaid : Prop := thresholdReordersUptoRow.holds Tryz.pinned (OpenSpec.upto thresholdReordersSpec)

end Rows
end Go.Proofs.YtekmminpfhacpaaGreatDoor
