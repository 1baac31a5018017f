/-
  NARROWER THAN 'FOR EVERY INPUT', by the rows' own cells (each row's printed sentence says how): UnfoldValidates: laid · UnfoldJudges: laid · UnfoldEnables: laid · UnfoldForces: laid · UnfoldMonotone: laid · UnfoldApplies: laid · UnfoldReplays: laid · UnfoldStarts: laid · UnfoldStartsAll: laid · UnfoldSteps: laid · UnfoldViolates: laid · UnfoldCounts: laid · UnfoldSymmetric: laid · UnfoldLassos: laid · UnfoldLassoTurns: laid.
  DERIVED. THE GIVEN ROWS OF THIS SEAT. 15 by the template 'for every input the law returns true; each argument reads behind the call as it read before'; 0 by the template 'total and deterministic' (their statements: YtjnjieabdjpfnaaGreatDoorTotals.lean).
  GIVEN WITH THE SEED: the statements are not yours to turn. If you find one false, say at which input.
  Laid BY PROGRAM, IN A SANDBOX (cutbox-rows.mjs): the forced cells as the released guide's own fill.sh prints them over the translation 1e1df3016bda0218… (all of the seat's roots in one cut). By AI agents, Wed Nov 11 2026. No macro, syntax, notation, axiom, sorry.
-/
import Derived.Test.YtjnjieabdjpfnaaGreatDoorChecked
import GoSem.Claim
import GoSem.ClaimJoined
import GoSem.ClaimMapViews
import Derived.JoinedTies
import Derived.KernelRfl
namespace Go.Proofs.YtjnjieabdjpfnaaGreatDoor
/- THE CELL 'sum', in the pinned program and in every row, IS THE sha256 OF THE DUMP (.gsa) THAT YtjnjieabdjpfnaaGreatDoorProg.lean LOADS. Nothing in Lean hashes anything: it is a label: what it is worth is what the hold of that sum in a sandbox is worth. -/
noncomputable def Tryz.pinned : Pinned := { name := "ytjnjieabdjpfnaagreatdoor", sum := "1e1df3016bda021836cdf5e3f3caf812d751e331a291f4bb3567b08d3b0493ef", checked := Tryz.checked }
namespace Rows
def none {H : Type} : Left H := { results := [], args := [] }

/- WHAT THE LISTED PACKAGE-LEVEL VARIABLES READ AS WHEN THE CALL BEGINS. Each datum BY PROGRAM (the guide's laid-datum.mjs) off the statement by which the dump's own 'gosem.cut.vars' lays the variable. In a bare row this is a premise. The card (YtjnjieabdjpfnaaGreatDoorCards.lean) ties it to the program's text. -/
def laid_unicode_White_Space {H : Type} : DataW H := .ptr (.agg [.slice [.agg [.lit (.int .u16 9), .lit (.int .u16 13), .lit (.int .u16 1)], .agg [.lit (.int .u16 32), .lit (.int .u16 133), .lit (.int .u16 101)], .agg [.lit (.int .u16 160), .lit (.int .u16 5760), .lit (.int .u16 5600)], .agg [.lit (.int .u16 8192), .lit (.int .u16 8202), .lit (.int .u16 1)], .agg [.lit (.int .u16 8232), .lit (.int .u16 8233), .lit (.int .u16 1)], .agg [.lit (.int .u16 8239), .lit (.int .u16 8287), .lit (.int .u16 48)], .agg [.lit (.int .u16 12288), .lit (.int .u16 12288), .lit (.int .u16 1)]] [], .nil, .lit (.int .i64 2)])
def laid_strings_asciiSpace {H : Type} : DataW H := .agg [.lit (.int .u8 0), .lit (.int .u8 0), .lit (.int .u8 0), .lit (.int .u8 0), .lit (.int .u8 0), .lit (.int .u8 0), .lit (.int .u8 0), .lit (.int .u8 0), .lit (.int .u8 0), .lit (.int .u8 1), .lit (.int .u8 1), .lit (.int .u8 1), .lit (.int .u8 1), .lit (.int .u8 1), .lit (.int .u8 0), .lit (.int .u8 0), .lit (.int .u8 0), .lit (.int .u8 0), .lit (.int .u8 0), .lit (.int .u8 0), .lit (.int .u8 0), .lit (.int .u8 0), .lit (.int .u8 0), .lit (.int .u8 0), .lit (.int .u8 0), .lit (.int .u8 0), .lit (.int .u8 0), .lit (.int .u8 0), .lit (.int .u8 0), .lit (.int .u8 0), .lit (.int .u8 0), .lit (.int .u8 0), .lit (.int .u8 1), .lit (.int .u8 0), .lit (.int .u8 0), .lit (.int .u8 0), .lit (.int .u8 0), .lit (.int .u8 0), .lit (.int .u8 0), .lit (.int .u8 0), .lit (.int .u8 0), .lit (.int .u8 0), .lit (.int .u8 0), .lit (.int .u8 0), .lit (.int .u8 0), .lit (.int .u8 0), .lit (.int .u8 0), .lit (.int .u8 0), .lit (.int .u8 0), .lit (.int .u8 0), .lit (.int .u8 0), .lit (.int .u8 0), .lit (.int .u8 0), .lit (.int .u8 0), .lit (.int .u8 0), .lit (.int .u8 0), .lit (.int .u8 0), .lit (.int .u8 0), .lit (.int .u8 0), .lit (.int .u8 0), .lit (.int .u8 0), .lit (.int .u8 0), .lit (.int .u8 0), .lit (.int .u8 0), .lit (.int .u8 0), .lit (.int .u8 0), .lit (.int .u8 0), .lit (.int .u8 0), .lit (.int .u8 0), .lit (.int .u8 0), .lit (.int .u8 0), .lit (.int .u8 0), .lit (.int .u8 0), .lit (.int .u8 0), .lit (.int .u8 0), .lit (.int .u8 0), .lit (.int .u8 0), .lit (.int .u8 0), .lit (.int .u8 0), .lit (.int .u8 0), .lit (.int .u8 0), .lit (.int .u8 0), .lit (.int .u8 0), .lit (.int .u8 0), .lit (.int .u8 0), .lit (.int .u8 0), .lit (.int .u8 0), .lit (.int .u8 0), .lit (.int .u8 0), .lit (.int .u8 0), .lit (.int .u8 0), .lit (.int .u8 0), .lit (.int .u8 0), .lit (.int .u8 0), .lit (.int .u8 0), .lit (.int .u8 0), .lit (.int .u8 0), .lit (.int .u8 0), .lit (.int .u8 0), .lit (.int .u8 0), .lit (.int .u8 0), .lit (.int .u8 0), .lit (.int .u8 0), .lit (.int .u8 0), .lit (.int .u8 0), .lit (.int .u8 0), .lit (.int .u8 0), .lit (.int .u8 0), .lit (.int .u8 0), .lit (.int .u8 0), .lit (.int .u8 0), .lit (.int .u8 0), .lit (.int .u8 0), .lit (.int .u8 0), .lit (.int .u8 0), .lit (.int .u8 0), .lit (.int .u8 0), .lit (.int .u8 0), .lit (.int .u8 0), .lit (.int .u8 0), .lit (.int .u8 0), .lit (.int .u8 0), .lit (.int .u8 0), .lit (.int .u8 0), .lit (.int .u8 0), .lit (.int .u8 0), .lit (.int .u8 0), .lit (.int .u8 0), .lit (.int .u8 0), .lit (.int .u8 0), .lit (.int .u8 0), .lit (.int .u8 0), .lit (.int .u8 0), .lit (.int .u8 0), .lit (.int .u8 0), .lit (.int .u8 0), .lit (.int .u8 0), .lit (.int .u8 0), .lit (.int .u8 0), .lit (.int .u8 0), .lit (.int .u8 0), .lit (.int .u8 0), .lit (.int .u8 0), .lit (.int .u8 0), .lit (.int .u8 0), .lit (.int .u8 0), .lit (.int .u8 0), .lit (.int .u8 0), .lit (.int .u8 0), .lit (.int .u8 0), .lit (.int .u8 0), .lit (.int .u8 0), .lit (.int .u8 0), .lit (.int .u8 0), .lit (.int .u8 0), .lit (.int .u8 0), .lit (.int .u8 0), .lit (.int .u8 0), .lit (.int .u8 0), .lit (.int .u8 0), .lit (.int .u8 0), .lit (.int .u8 0), .lit (.int .u8 0), .lit (.int .u8 0), .lit (.int .u8 0), .lit (.int .u8 0), .lit (.int .u8 0), .lit (.int .u8 0), .lit (.int .u8 0), .lit (.int .u8 0), .lit (.int .u8 0), .lit (.int .u8 0), .lit (.int .u8 0), .lit (.int .u8 0), .lit (.int .u8 0), .lit (.int .u8 0), .lit (.int .u8 0), .lit (.int .u8 0), .lit (.int .u8 0), .lit (.int .u8 0), .lit (.int .u8 0), .lit (.int .u8 0), .lit (.int .u8 0), .lit (.int .u8 0), .lit (.int .u8 0), .lit (.int .u8 0), .lit (.int .u8 0), .lit (.int .u8 0), .lit (.int .u8 0), .lit (.int .u8 0), .lit (.int .u8 0), .lit (.int .u8 0), .lit (.int .u8 0), .lit (.int .u8 0), .lit (.int .u8 0), .lit (.int .u8 0), .lit (.int .u8 0), .lit (.int .u8 0), .lit (.int .u8 0), .lit (.int .u8 0), .lit (.int .u8 0), .lit (.int .u8 0), .lit (.int .u8 0), .lit (.int .u8 0), .lit (.int .u8 0), .lit (.int .u8 0), .lit (.int .u8 0), .lit (.int .u8 0), .lit (.int .u8 0), .lit (.int .u8 0), .lit (.int .u8 0), .lit (.int .u8 0), .lit (.int .u8 0), .lit (.int .u8 0), .lit (.int .u8 0), .lit (.int .u8 0), .lit (.int .u8 0), .lit (.int .u8 0), .lit (.int .u8 0), .lit (.int .u8 0), .lit (.int .u8 0), .lit (.int .u8 0), .lit (.int .u8 0), .lit (.int .u8 0), .lit (.int .u8 0), .lit (.int .u8 0), .lit (.int .u8 0), .lit (.int .u8 0), .lit (.int .u8 0), .lit (.int .u8 0), .lit (.int .u8 0), .lit (.int .u8 0), .lit (.int .u8 0), .lit (.int .u8 0), .lit (.int .u8 0), .lit (.int .u8 0), .lit (.int .u8 0), .lit (.int .u8 0), .lit (.int .u8 0), .lit (.int .u8 0), .lit (.int .u8 0), .lit (.int .u8 0), .lit (.int .u8 0), .lit (.int .u8 0), .lit (.int .u8 0), .lit (.int .u8 0), .lit (.int .u8 0), .lit (.int .u8 0), .lit (.int .u8 0), .lit (.int .u8 0), .lit (.int .u8 0), .lit (.int .u8 0), .lit (.int .u8 0), .lit (.int .u8 0), .lit (.int .u8 0), .lit (.int .u8 0)]

/-- 'familychecklaw03.UnfoldValidates': WHATEVER THE INPUT: true; the input reads as it did. -/
def unfoldValidatesSpec : ChangeSpec := { name := "unfoldValidates", fn := fun _ => fun
  | [d] => { results := [.lit (.bool true)], args := [d] }
  | _ => none }
def unfoldValidatesRow : OpenClaim := { program := "ytjnjieabdjpfnaagreatdoor", sum := "1e1df3016bda021836cdf5e3f3caf812d751e331a291f4bb3567b08d3b0493ef", func := "familycheck/familychecklaw03.UnfoldValidates", spec := "unfoldValidates", unfollowed := true, recurses := true, named := ["strings.asciiSpace", "unicode.White_Space"], plainKeys := false, apart := false, laid := [("unicode.White_Space", laid_unicode_White_Space), ("strings.asciiSpace", laid_strings_asciiSpace)] }
def UnfoldValidatesSaid : Prop := unfoldValidatesRow.holds Tryz.pinned (OpenSpec.ofChange unfoldValidatesSpec)

/-- ITS FALSE NEIGHBOUR: 'it returns false'. Refute it at one input. -/
def unfoldValidatesWrong : ChangeSpec := { name := "unfoldValidates", fn := fun _ => fun
  | [d] => { results := [.lit (.bool false)], args := [d] }
  | _ => none }
def UnfoldValidatesWrongFalsely : Prop := unfoldValidatesRow.holds Tryz.pinned (OpenSpec.ofChange unfoldValidatesWrong)

/-- 'familychecklaw03.UnfoldJudges': WHATEVER THE INPUT: true; the input reads as it did. -/
def unfoldJudgesSpec : ChangeSpec := { name := "unfoldJudges", fn := fun _ => fun
  | [d1, d2, d3] => { results := [.lit (.bool true)], args := [d1, d2, d3] }
  | _ => none }
def unfoldJudgesRow : OpenClaim := { program := "ytjnjieabdjpfnaagreatdoor", sum := "1e1df3016bda021836cdf5e3f3caf812d751e331a291f4bb3567b08d3b0493ef", func := "familycheck/familychecklaw03.UnfoldJudges", spec := "unfoldJudges", unfollowed := true, recurses := true, named := ["strings.asciiSpace", "unicode.White_Space"], plainKeys := false, apart := false, laid := [("unicode.White_Space", laid_unicode_White_Space), ("strings.asciiSpace", laid_strings_asciiSpace)] }
def UnfoldJudgesSaid : Prop := unfoldJudgesRow.holds Tryz.pinned (OpenSpec.ofChange unfoldJudgesSpec)

/-- ITS FALSE NEIGHBOUR: 'it returns false'. Refute it at one input. -/
def unfoldJudgesWrong : ChangeSpec := { name := "unfoldJudges", fn := fun _ => fun
  | [d1, d2, d3] => { results := [.lit (.bool false)], args := [d1, d2, d3] }
  | _ => none }
def UnfoldJudgesWrongFalsely : Prop := unfoldJudgesRow.holds Tryz.pinned (OpenSpec.ofChange unfoldJudgesWrong)

/-- 'familychecklaw03.UnfoldEnables': WHATEVER THE INPUT: true; the input reads as it did. -/
def unfoldEnablesSpec : ChangeSpec := { name := "unfoldEnables", fn := fun _ => fun
  | [d1, d2] => { results := [.lit (.bool true)], args := [d1, d2] }
  | _ => none }
def unfoldEnablesRow : OpenClaim := { program := "ytjnjieabdjpfnaagreatdoor", sum := "1e1df3016bda021836cdf5e3f3caf812d751e331a291f4bb3567b08d3b0493ef", func := "familycheck/familychecklaw03.UnfoldEnables", spec := "unfoldEnables", unfollowed := true, recurses := true, named := ["strings.asciiSpace", "unicode.White_Space"], plainKeys := false, apart := false, laid := [("unicode.White_Space", laid_unicode_White_Space), ("strings.asciiSpace", laid_strings_asciiSpace)] }
def UnfoldEnablesSaid : Prop := unfoldEnablesRow.holds Tryz.pinned (OpenSpec.ofChange unfoldEnablesSpec)

/-- ITS FALSE NEIGHBOUR: 'it returns false'. Refute it at one input. -/
def unfoldEnablesWrong : ChangeSpec := { name := "unfoldEnables", fn := fun _ => fun
  | [d1, d2] => { results := [.lit (.bool false)], args := [d1, d2] }
  | _ => none }
def UnfoldEnablesWrongFalsely : Prop := unfoldEnablesRow.holds Tryz.pinned (OpenSpec.ofChange unfoldEnablesWrong)

/-- 'familychecklaw03.UnfoldForces': WHATEVER THE INPUT: true; the input reads as it did. -/
def unfoldForcesSpec : ChangeSpec := { name := "unfoldForces", fn := fun _ => fun
  | [d1, d2, d3] => { results := [.lit (.bool true)], args := [d1, d2, d3] }
  | _ => none }
def unfoldForcesRow : OpenClaim := { program := "ytjnjieabdjpfnaagreatdoor", sum := "1e1df3016bda021836cdf5e3f3caf812d751e331a291f4bb3567b08d3b0493ef", func := "familycheck/familychecklaw03.UnfoldForces", spec := "unfoldForces", unfollowed := true, recurses := true, named := ["strings.asciiSpace", "unicode.White_Space"], plainKeys := false, apart := false, laid := [("unicode.White_Space", laid_unicode_White_Space), ("strings.asciiSpace", laid_strings_asciiSpace)] }
def UnfoldForcesSaid : Prop := unfoldForcesRow.holds Tryz.pinned (OpenSpec.ofChange unfoldForcesSpec)

/-- ITS FALSE NEIGHBOUR: 'it returns false'. Refute it at one input. -/
def unfoldForcesWrong : ChangeSpec := { name := "unfoldForces", fn := fun _ => fun
  | [d1, d2, d3] => { results := [.lit (.bool false)], args := [d1, d2, d3] }
  | _ => none }
def UnfoldForcesWrongFalsely : Prop := unfoldForcesRow.holds Tryz.pinned (OpenSpec.ofChange unfoldForcesWrong)

/-- 'familychecklaw03.UnfoldMonotone': WHATEVER THE INPUT: true; the input reads as it did. -/
def unfoldMonotoneSpec : ChangeSpec := { name := "unfoldMonotone", fn := fun _ => fun
  | [d1, d2, d3] => { results := [.lit (.bool true)], args := [d1, d2, d3] }
  | _ => none }
def unfoldMonotoneRow : OpenClaim := { program := "ytjnjieabdjpfnaagreatdoor", sum := "1e1df3016bda021836cdf5e3f3caf812d751e331a291f4bb3567b08d3b0493ef", func := "familycheck/familychecklaw03.UnfoldMonotone", spec := "unfoldMonotone", unfollowed := true, recurses := true, named := ["strings.asciiSpace", "unicode.White_Space"], plainKeys := false, apart := false, laid := [("unicode.White_Space", laid_unicode_White_Space), ("strings.asciiSpace", laid_strings_asciiSpace)] }
def UnfoldMonotoneSaid : Prop := unfoldMonotoneRow.holds Tryz.pinned (OpenSpec.ofChange unfoldMonotoneSpec)

/-- ITS FALSE NEIGHBOUR: 'it returns false'. Refute it at one input. -/
def unfoldMonotoneWrong : ChangeSpec := { name := "unfoldMonotone", fn := fun _ => fun
  | [d1, d2, d3] => { results := [.lit (.bool false)], args := [d1, d2, d3] }
  | _ => none }
def UnfoldMonotoneWrongFalsely : Prop := unfoldMonotoneRow.holds Tryz.pinned (OpenSpec.ofChange unfoldMonotoneWrong)

/-- 'familychecklaw03.UnfoldApplies': WHATEVER THE INPUT: true; the input reads as it did. -/
def unfoldAppliesSpec : ChangeSpec := { name := "unfoldApplies", fn := fun _ => fun
  | [d1, d2] => { results := [.lit (.bool true)], args := [d1, d2] }
  | _ => none }
def unfoldAppliesRow : OpenClaim := { program := "ytjnjieabdjpfnaagreatdoor", sum := "1e1df3016bda021836cdf5e3f3caf812d751e331a291f4bb3567b08d3b0493ef", func := "familycheck/familychecklaw03.UnfoldApplies", spec := "unfoldApplies", unfollowed := true, recurses := true, named := ["strings.asciiSpace", "unicode.White_Space"], plainKeys := false, apart := false, laid := [("unicode.White_Space", laid_unicode_White_Space), ("strings.asciiSpace", laid_strings_asciiSpace)] }
def UnfoldAppliesSaid : Prop := unfoldAppliesRow.holds Tryz.pinned (OpenSpec.ofChange unfoldAppliesSpec)

/-- ITS FALSE NEIGHBOUR: 'it returns false'. Refute it at one input. -/
def unfoldAppliesWrong : ChangeSpec := { name := "unfoldApplies", fn := fun _ => fun
  | [d1, d2] => { results := [.lit (.bool false)], args := [d1, d2] }
  | _ => none }
def UnfoldAppliesWrongFalsely : Prop := unfoldAppliesRow.holds Tryz.pinned (OpenSpec.ofChange unfoldAppliesWrong)

/-- 'familychecklaw03.UnfoldReplays': WHATEVER THE INPUT: true; the input reads as it did. -/
def unfoldReplaysSpec : ChangeSpec := { name := "unfoldReplays", fn := fun _ => fun
  | [d1, d2, d3] => { results := [.lit (.bool true)], args := [d1, d2, d3] }
  | _ => none }
def unfoldReplaysRow : OpenClaim := { program := "ytjnjieabdjpfnaagreatdoor", sum := "1e1df3016bda021836cdf5e3f3caf812d751e331a291f4bb3567b08d3b0493ef", func := "familycheck/familychecklaw03.UnfoldReplays", spec := "unfoldReplays", unfollowed := true, recurses := true, named := ["strings.asciiSpace", "unicode.White_Space"], plainKeys := false, apart := false, laid := [("unicode.White_Space", laid_unicode_White_Space), ("strings.asciiSpace", laid_strings_asciiSpace)] }
def UnfoldReplaysSaid : Prop := unfoldReplaysRow.holds Tryz.pinned (OpenSpec.ofChange unfoldReplaysSpec)

/-- ITS FALSE NEIGHBOUR: 'it returns false'. Refute it at one input. -/
def unfoldReplaysWrong : ChangeSpec := { name := "unfoldReplays", fn := fun _ => fun
  | [d1, d2, d3] => { results := [.lit (.bool false)], args := [d1, d2, d3] }
  | _ => none }
def UnfoldReplaysWrongFalsely : Prop := unfoldReplaysRow.holds Tryz.pinned (OpenSpec.ofChange unfoldReplaysWrong)

/-- 'familychecklaw03.UnfoldStarts': WHATEVER THE INPUT: true; the input reads as it did. -/
def unfoldStartsSpec : ChangeSpec := { name := "unfoldStarts", fn := fun _ => fun
  | [d] => { results := [.lit (.bool true)], args := [d] }
  | _ => none }
def unfoldStartsRow : OpenClaim := { program := "ytjnjieabdjpfnaagreatdoor", sum := "1e1df3016bda021836cdf5e3f3caf812d751e331a291f4bb3567b08d3b0493ef", func := "familycheck/familychecklaw03.UnfoldStarts", spec := "unfoldStarts", unfollowed := true, recurses := true, named := ["strings.asciiSpace", "unicode.White_Space"], plainKeys := false, apart := false, laid := [("unicode.White_Space", laid_unicode_White_Space), ("strings.asciiSpace", laid_strings_asciiSpace)] }
def UnfoldStartsSaid : Prop := unfoldStartsRow.holds Tryz.pinned (OpenSpec.ofChange unfoldStartsSpec)

/-- ITS FALSE NEIGHBOUR: 'it returns false'. Refute it at one input. -/
def unfoldStartsWrong : ChangeSpec := { name := "unfoldStarts", fn := fun _ => fun
  | [d] => { results := [.lit (.bool false)], args := [d] }
  | _ => none }
def UnfoldStartsWrongFalsely : Prop := unfoldStartsRow.holds Tryz.pinned (OpenSpec.ofChange unfoldStartsWrong)

/-- 'familychecklaw03.UnfoldStartsAll': WHATEVER THE INPUT: true; the input reads as it did. -/
def unfoldStartsAllSpec : ChangeSpec := { name := "unfoldStartsAll", fn := fun _ => fun
  | [d1, d2] => { results := [.lit (.bool true)], args := [d1, d2] }
  | _ => none }
def unfoldStartsAllRow : OpenClaim := { program := "ytjnjieabdjpfnaagreatdoor", sum := "1e1df3016bda021836cdf5e3f3caf812d751e331a291f4bb3567b08d3b0493ef", func := "familycheck/familychecklaw03.UnfoldStartsAll", spec := "unfoldStartsAll", unfollowed := true, recurses := true, named := ["strings.asciiSpace", "unicode.White_Space"], plainKeys := false, apart := false, laid := [("unicode.White_Space", laid_unicode_White_Space), ("strings.asciiSpace", laid_strings_asciiSpace)] }
def UnfoldStartsAllSaid : Prop := unfoldStartsAllRow.holds Tryz.pinned (OpenSpec.ofChange unfoldStartsAllSpec)

/-- ITS FALSE NEIGHBOUR: 'it returns false'. Refute it at one input. -/
def unfoldStartsAllWrong : ChangeSpec := { name := "unfoldStartsAll", fn := fun _ => fun
  | [d1, d2] => { results := [.lit (.bool false)], args := [d1, d2] }
  | _ => none }
def UnfoldStartsAllWrongFalsely : Prop := unfoldStartsAllRow.holds Tryz.pinned (OpenSpec.ofChange unfoldStartsAllWrong)

/-- 'familychecklaw03.UnfoldSteps': WHATEVER THE INPUT: true; the input reads as it did. -/
def unfoldStepsSpec : ChangeSpec := { name := "unfoldSteps", fn := fun _ => fun
  | [d] => { results := [.lit (.bool true)], args := [d] }
  | _ => none }
def unfoldStepsRow : OpenClaim := { program := "ytjnjieabdjpfnaagreatdoor", sum := "1e1df3016bda021836cdf5e3f3caf812d751e331a291f4bb3567b08d3b0493ef", func := "familycheck/familychecklaw03.UnfoldSteps", spec := "unfoldSteps", unfollowed := true, recurses := true, named := ["strings.asciiSpace", "unicode.White_Space"], plainKeys := false, apart := false, laid := [("unicode.White_Space", laid_unicode_White_Space), ("strings.asciiSpace", laid_strings_asciiSpace)] }
def UnfoldStepsSaid : Prop := unfoldStepsRow.holds Tryz.pinned (OpenSpec.ofChange unfoldStepsSpec)

/-- ITS FALSE NEIGHBOUR: 'it returns false'. Refute it at one input. -/
def unfoldStepsWrong : ChangeSpec := { name := "unfoldSteps", fn := fun _ => fun
  | [d] => { results := [.lit (.bool false)], args := [d] }
  | _ => none }
def UnfoldStepsWrongFalsely : Prop := unfoldStepsRow.holds Tryz.pinned (OpenSpec.ofChange unfoldStepsWrong)

/-- 'familychecklaw03.UnfoldViolates': WHATEVER THE INPUT: true; the input reads as it did. -/
def unfoldViolatesSpec : ChangeSpec := { name := "unfoldViolates", fn := fun _ => fun
  | [d1, d2] => { results := [.lit (.bool true)], args := [d1, d2] }
  | _ => none }
def unfoldViolatesRow : OpenClaim := { program := "ytjnjieabdjpfnaagreatdoor", sum := "1e1df3016bda021836cdf5e3f3caf812d751e331a291f4bb3567b08d3b0493ef", func := "familycheck/familychecklaw03.UnfoldViolates", spec := "unfoldViolates", unfollowed := true, recurses := true, named := ["strings.asciiSpace", "unicode.White_Space"], plainKeys := false, apart := false, laid := [("unicode.White_Space", laid_unicode_White_Space), ("strings.asciiSpace", laid_strings_asciiSpace)] }
def UnfoldViolatesSaid : Prop := unfoldViolatesRow.holds Tryz.pinned (OpenSpec.ofChange unfoldViolatesSpec)

/-- ITS FALSE NEIGHBOUR: 'it returns false'. Refute it at one input. -/
def unfoldViolatesWrong : ChangeSpec := { name := "unfoldViolates", fn := fun _ => fun
  | [d1, d2] => { results := [.lit (.bool false)], args := [d1, d2] }
  | _ => none }
def UnfoldViolatesWrongFalsely : Prop := unfoldViolatesRow.holds Tryz.pinned (OpenSpec.ofChange unfoldViolatesWrong)

/-- 'familychecklaw03.UnfoldCounts': WHATEVER THE INPUT: true; the input reads as it did. -/
def unfoldCountsSpec : ChangeSpec := { name := "unfoldCounts", fn := fun _ => fun
  | [d1, d2] => { results := [.lit (.bool true)], args := [d1, d2] }
  | _ => none }
def unfoldCountsRow : OpenClaim := { program := "ytjnjieabdjpfnaagreatdoor", sum := "1e1df3016bda021836cdf5e3f3caf812d751e331a291f4bb3567b08d3b0493ef", func := "familycheck/familychecklaw03.UnfoldCounts", spec := "unfoldCounts", unfollowed := true, recurses := true, named := ["strings.asciiSpace", "unicode.White_Space"], plainKeys := false, apart := false, laid := [("unicode.White_Space", laid_unicode_White_Space), ("strings.asciiSpace", laid_strings_asciiSpace)] }
def UnfoldCountsSaid : Prop := unfoldCountsRow.holds Tryz.pinned (OpenSpec.ofChange unfoldCountsSpec)

/-- ITS FALSE NEIGHBOUR: 'it returns false'. Refute it at one input. -/
def unfoldCountsWrong : ChangeSpec := { name := "unfoldCounts", fn := fun _ => fun
  | [d1, d2] => { results := [.lit (.bool false)], args := [d1, d2] }
  | _ => none }
def UnfoldCountsWrongFalsely : Prop := unfoldCountsRow.holds Tryz.pinned (OpenSpec.ofChange unfoldCountsWrong)

/-- 'familychecklaw03.UnfoldSymmetric': WHATEVER THE INPUT: true; the input reads as it did. -/
def unfoldSymmetricSpec : ChangeSpec := { name := "unfoldSymmetric", fn := fun _ => fun
  | [d1, d2, d3] => { results := [.lit (.bool true)], args := [d1, d2, d3] }
  | _ => none }
def unfoldSymmetricRow : OpenClaim := { program := "ytjnjieabdjpfnaagreatdoor", sum := "1e1df3016bda021836cdf5e3f3caf812d751e331a291f4bb3567b08d3b0493ef", func := "familycheck/familychecklaw03.UnfoldSymmetric", spec := "unfoldSymmetric", unfollowed := true, recurses := true, named := ["strings.asciiSpace", "unicode.White_Space"], plainKeys := false, apart := false, laid := [("unicode.White_Space", laid_unicode_White_Space), ("strings.asciiSpace", laid_strings_asciiSpace)] }
def UnfoldSymmetricSaid : Prop := unfoldSymmetricRow.holds Tryz.pinned (OpenSpec.ofChange unfoldSymmetricSpec)

/-- ITS FALSE NEIGHBOUR: 'it returns false'. Refute it at one input. -/
def unfoldSymmetricWrong : ChangeSpec := { name := "unfoldSymmetric", fn := fun _ => fun
  | [d1, d2, d3] => { results := [.lit (.bool false)], args := [d1, d2, d3] }
  | _ => none }
def UnfoldSymmetricWrongFalsely : Prop := unfoldSymmetricRow.holds Tryz.pinned (OpenSpec.ofChange unfoldSymmetricWrong)

/-- 'familychecklaw03.UnfoldLassos': WHATEVER THE INPUT: true; the input reads as it did. -/
def unfoldLassosSpec : ChangeSpec := { name := "unfoldLassos", fn := fun _ => fun
  | [d1, d2] => { results := [.lit (.bool true)], args := [d1, d2] }
  | _ => none }
def unfoldLassosRow : OpenClaim := { program := "ytjnjieabdjpfnaagreatdoor", sum := "1e1df3016bda021836cdf5e3f3caf812d751e331a291f4bb3567b08d3b0493ef", func := "familycheck/familychecklaw03.UnfoldLassos", spec := "unfoldLassos", unfollowed := true, recurses := true, named := ["strings.asciiSpace", "unicode.White_Space"], plainKeys := false, apart := false, laid := [("unicode.White_Space", laid_unicode_White_Space), ("strings.asciiSpace", laid_strings_asciiSpace)] }
def UnfoldLassosSaid : Prop := unfoldLassosRow.holds Tryz.pinned (OpenSpec.ofChange unfoldLassosSpec)

/-- ITS FALSE NEIGHBOUR: 'it returns false'. Refute it at one input. -/
def unfoldLassosWrong : ChangeSpec := { name := "unfoldLassos", fn := fun _ => fun
  | [d1, d2] => { results := [.lit (.bool false)], args := [d1, d2] }
  | _ => none }
def UnfoldLassosWrongFalsely : Prop := unfoldLassosRow.holds Tryz.pinned (OpenSpec.ofChange unfoldLassosWrong)

/-- 'familychecklaw03.UnfoldLassoTurns': WHATEVER THE INPUT: true; the input reads as it did. -/
def unfoldLassoTurnsSpec : ChangeSpec := { name := "unfoldLassoTurns", fn := fun _ => fun
  | [d1, d2] => { results := [.lit (.bool true)], args := [d1, d2] }
  | _ => none }
def unfoldLassoTurnsRow : OpenClaim := { program := "ytjnjieabdjpfnaagreatdoor", sum := "1e1df3016bda021836cdf5e3f3caf812d751e331a291f4bb3567b08d3b0493ef", func := "familycheck/familychecklaw03.UnfoldLassoTurns", spec := "unfoldLassoTurns", unfollowed := true, recurses := true, named := ["strings.asciiSpace", "unicode.White_Space"], plainKeys := false, apart := false, laid := [("unicode.White_Space", laid_unicode_White_Space), ("strings.asciiSpace", laid_strings_asciiSpace)] }
def UnfoldLassoTurnsSaid : Prop := unfoldLassoTurnsRow.holds Tryz.pinned (OpenSpec.ofChange unfoldLassoTurnsSpec)

/-- ITS FALSE NEIGHBOUR: 'it returns false'. Refute it at one input. -/
def unfoldLassoTurnsWrong : ChangeSpec := { name := "unfoldLassoTurns", fn := fun _ => fun
  | [d1, d2] => { results := [.lit (.bool false)], args := [d1, d2] }
  | _ => none }
def UnfoldLassoTurnsWrongFalsely : Prop := unfoldLassoTurnsRow.holds Tryz.pinned (OpenSpec.ofChange unfoldLassoTurnsWrong)

/- THE SECOND FORM. 'bulk': how many values and letters a reading holds, each counted each time it is reached (what is shared counts as often as it is met; a slice's spare places count too). A statement '..UptoSaid' is the law's where the arguments, and the package variables that the reading takes, are together of bulk at most 1048576: NARROWER than '..Said'. Prove '..Said' where nothing that the law and all that it calls make is longer than what came in: it says more and counts as full. Else prove '..UptoSaid'. A law counts once. -/
mutual
def uptoBulk {H : Type} : DataW H → Nat
  | .lit (.string bytes) => bytes.length + 1
  | .lit _ => 1
  | .nil => 1
  | .ptr d => uptoBulk d + 1
  | .slice elems spare => uptoBulkAll elems + uptoBulkAll spare + 1
  | .agg parts => uptoBulkAll parts + 1
  | .iface _ d => uptoBulk d + 1
  | .map entries => uptoBulkEntries entries + 1
  | .held _ => 1
def uptoBulkAll {H : Type} : List (DataW H) → Nat
  | [] => 0
  | d :: r => uptoBulk d + uptoBulkAll r
def uptoBulkEntries {H : Type} : List (Lit × DataW H) → Nat
  | [] => 0
  | x :: r => uptoBulkEntry x + uptoBulkEntries r
def uptoBulkEntry {H : Type} : Lit × DataW H → Nat
  | (.string bytes, d) => bytes.length + uptoBulk d + 1
  | (_, d) => uptoBulk d + 1
 end
def uptoSmall : (H : Type) → List (DataW H) → Bool := fun _ ds => decide (uptoBulkAll ds ≤ 1048576)
def OpenSpec.upto (s : _root_.Go.ChangeSpec) : _root_.Go.OpenSpec := { _root_.Go.OpenSpec.ofChange s with cond := some uptoSmall }

/-- 'familychecklaw03.UnfoldValidates', WHERE WHAT IT READS IS OF BULK AT MOST 1048576: true; the input reads as it did. -/
def unfoldValidatesUptoRow : OpenClaim := { program := "ytjnjieabdjpfnaagreatdoor", sum := "1e1df3016bda021836cdf5e3f3caf812d751e331a291f4bb3567b08d3b0493ef", func := "familycheck/familychecklaw03.UnfoldValidates", spec := "unfoldValidates", unfollowed := true, recurses := true, named := ["strings.asciiSpace", "unicode.White_Space"], plainKeys := false, apart := false, laid := [("unicode.White_Space", laid_unicode_White_Space), ("strings.asciiSpace", laid_strings_asciiSpace)], narrowed := true }
def UnfoldValidatesUptoSaid : Prop := unfoldValidatesUptoRow.holds Tryz.pinned (OpenSpec.upto unfoldValidatesSpec)

/-- 'familychecklaw03.UnfoldJudges', WHERE WHAT IT READS IS OF BULK AT MOST 1048576: true; the input reads as it did. -/
def unfoldJudgesUptoRow : OpenClaim := { program := "ytjnjieabdjpfnaagreatdoor", sum := "1e1df3016bda021836cdf5e3f3caf812d751e331a291f4bb3567b08d3b0493ef", func := "familycheck/familychecklaw03.UnfoldJudges", spec := "unfoldJudges", unfollowed := true, recurses := true, named := ["strings.asciiSpace", "unicode.White_Space"], plainKeys := false, apart := false, laid := [("unicode.White_Space", laid_unicode_White_Space), ("strings.asciiSpace", laid_strings_asciiSpace)], narrowed := true }
def UnfoldJudgesUptoSaid : Prop := unfoldJudgesUptoRow.holds Tryz.pinned (OpenSpec.upto unfoldJudgesSpec)

/-- 'familychecklaw03.UnfoldEnables', WHERE WHAT IT READS IS OF BULK AT MOST 1048576: true; the input reads as it did. -/
def unfoldEnablesUptoRow : OpenClaim := { program := "ytjnjieabdjpfnaagreatdoor", sum := "1e1df3016bda021836cdf5e3f3caf812d751e331a291f4bb3567b08d3b0493ef", func := "familycheck/familychecklaw03.UnfoldEnables", spec := "unfoldEnables", unfollowed := true, recurses := true, named := ["strings.asciiSpace", "unicode.White_Space"], plainKeys := false, apart := false, laid := [("unicode.White_Space", laid_unicode_White_Space), ("strings.asciiSpace", laid_strings_asciiSpace)], narrowed := true }
def UnfoldEnablesUptoSaid : Prop := unfoldEnablesUptoRow.holds Tryz.pinned (OpenSpec.upto unfoldEnablesSpec)

/-- 'familychecklaw03.UnfoldForces', WHERE WHAT IT READS IS OF BULK AT MOST 1048576: true; the input reads as it did. -/
def unfoldForcesUptoRow : OpenClaim := { program := "ytjnjieabdjpfnaagreatdoor", sum := "1e1df3016bda021836cdf5e3f3caf812d751e331a291f4bb3567b08d3b0493ef", func := "familycheck/familychecklaw03.UnfoldForces", spec := "unfoldForces", unfollowed := true, recurses := true, named := ["strings.asciiSpace", "unicode.White_Space"], plainKeys := false, apart := false, laid := [("unicode.White_Space", laid_unicode_White_Space), ("strings.asciiSpace", laid_strings_asciiSpace)], narrowed := true }
def UnfoldForcesUptoSaid : Prop := unfoldForcesUptoRow.holds Tryz.pinned (OpenSpec.upto unfoldForcesSpec)

/-- 'familychecklaw03.UnfoldMonotone', WHERE WHAT IT READS IS OF BULK AT MOST 1048576: true; the input reads as it did. -/
def unfoldMonotoneUptoRow : OpenClaim := { program := "ytjnjieabdjpfnaagreatdoor", sum := "1e1df3016bda021836cdf5e3f3caf812d751e331a291f4bb3567b08d3b0493ef", func := "familycheck/familychecklaw03.UnfoldMonotone", spec := "unfoldMonotone", unfollowed := true, recurses := true, named := ["strings.asciiSpace", "unicode.White_Space"], plainKeys := false, apart := false, laid := [("unicode.White_Space", laid_unicode_White_Space), ("strings.asciiSpace", laid_strings_asciiSpace)], narrowed := true }
def UnfoldMonotoneUptoSaid : Prop := unfoldMonotoneUptoRow.holds Tryz.pinned (OpenSpec.upto unfoldMonotoneSpec)

/-- 'familychecklaw03.UnfoldApplies', WHERE WHAT IT READS IS OF BULK AT MOST 1048576: true; the input reads as it did. -/
def unfoldAppliesUptoRow : OpenClaim := { program := "ytjnjieabdjpfnaagreatdoor", sum := "1e1df3016bda021836cdf5e3f3caf812d751e331a291f4bb3567b08d3b0493ef", func := "familycheck/familychecklaw03.UnfoldApplies", spec := "unfoldApplies", unfollowed := true, recurses := true, named := ["strings.asciiSpace", "unicode.White_Space"], plainKeys := false, apart := false, laid := [("unicode.White_Space", laid_unicode_White_Space), ("strings.asciiSpace", laid_strings_asciiSpace)], narrowed := true }
def UnfoldAppliesUptoSaid : Prop := unfoldAppliesUptoRow.holds Tryz.pinned (OpenSpec.upto unfoldAppliesSpec)

/-- 'familychecklaw03.UnfoldReplays', WHERE WHAT IT READS IS OF BULK AT MOST 1048576: true; the input reads as it did. -/
def unfoldReplaysUptoRow : OpenClaim := { program := "ytjnjieabdjpfnaagreatdoor", sum := "1e1df3016bda021836cdf5e3f3caf812d751e331a291f4bb3567b08d3b0493ef", func := "familycheck/familychecklaw03.UnfoldReplays", spec := "unfoldReplays", unfollowed := true, recurses := true, named := ["strings.asciiSpace", "unicode.White_Space"], plainKeys := false, apart := false, laid := [("unicode.White_Space", laid_unicode_White_Space), ("strings.asciiSpace", laid_strings_asciiSpace)], narrowed := true }
def UnfoldReplaysUptoSaid : Prop := unfoldReplaysUptoRow.holds Tryz.pinned (OpenSpec.upto unfoldReplaysSpec)

/-- 'familychecklaw03.UnfoldStarts', WHERE WHAT IT READS IS OF BULK AT MOST 1048576: true; the input reads as it did. -/
def unfoldStartsUptoRow : OpenClaim := { program := "ytjnjieabdjpfnaagreatdoor", sum := "1e1df3016bda021836cdf5e3f3caf812d751e331a291f4bb3567b08d3b0493ef", func := "familycheck/familychecklaw03.UnfoldStarts", spec := "unfoldStarts", unfollowed := true, recurses := true, named := ["strings.asciiSpace", "unicode.White_Space"], plainKeys := false, apart := false, laid := [("unicode.White_Space", laid_unicode_White_Space), ("strings.asciiSpace", laid_strings_asciiSpace)], narrowed := true }
def UnfoldStartsUptoSaid : Prop := unfoldStartsUptoRow.holds Tryz.pinned (OpenSpec.upto unfoldStartsSpec)

/-- 'familychecklaw03.UnfoldStartsAll', WHERE WHAT IT READS IS OF BULK AT MOST 1048576: true; the input reads as it did. -/
def unfoldStartsAllUptoRow : OpenClaim := { program := "ytjnjieabdjpfnaagreatdoor", sum := "1e1df3016bda021836cdf5e3f3caf812d751e331a291f4bb3567b08d3b0493ef", func := "familycheck/familychecklaw03.UnfoldStartsAll", spec := "unfoldStartsAll", unfollowed := true, recurses := true, named := ["strings.asciiSpace", "unicode.White_Space"], plainKeys := false, apart := false, laid := [("unicode.White_Space", laid_unicode_White_Space), ("strings.asciiSpace", laid_strings_asciiSpace)], narrowed := true }
def UnfoldStartsAllUptoSaid : Prop := unfoldStartsAllUptoRow.holds Tryz.pinned (OpenSpec.upto unfoldStartsAllSpec)

/-- 'familychecklaw03.UnfoldSteps', WHERE WHAT IT READS IS OF BULK AT MOST 1048576: true; the input reads as it did. -/
def unfoldStepsUptoRow : OpenClaim := { program := "ytjnjieabdjpfnaagreatdoor", sum := "1e1df3016bda021836cdf5e3f3caf812d751e331a291f4bb3567b08d3b0493ef", func := "familycheck/familychecklaw03.UnfoldSteps", spec := "unfoldSteps", unfollowed := true, recurses := true, named := ["strings.asciiSpace", "unicode.White_Space"], plainKeys := false, apart := false, laid := [("unicode.White_Space", laid_unicode_White_Space), ("strings.asciiSpace", laid_strings_asciiSpace)], narrowed := true }
def UnfoldStepsUptoSaid : Prop := unfoldStepsUptoRow.holds Tryz.pinned (OpenSpec.upto unfoldStepsSpec)

/-- 'familychecklaw03.UnfoldViolates', WHERE WHAT IT READS IS OF BULK AT MOST 1048576: true; the input reads as it did. -/
def unfoldViolatesUptoRow : OpenClaim := { program := "ytjnjieabdjpfnaagreatdoor", sum := "1e1df3016bda021836cdf5e3f3caf812d751e331a291f4bb3567b08d3b0493ef", func := "familycheck/familychecklaw03.UnfoldViolates", spec := "unfoldViolates", unfollowed := true, recurses := true, named := ["strings.asciiSpace", "unicode.White_Space"], plainKeys := false, apart := false, laid := [("unicode.White_Space", laid_unicode_White_Space), ("strings.asciiSpace", laid_strings_asciiSpace)], narrowed := true }
def UnfoldViolatesUptoSaid : Prop := unfoldViolatesUptoRow.holds Tryz.pinned (OpenSpec.upto unfoldViolatesSpec)

/-- 'familychecklaw03.UnfoldCounts', WHERE WHAT IT READS IS OF BULK AT MOST 1048576: true; the input reads as it did. -/
def unfoldCountsUptoRow : OpenClaim := { program := "ytjnjieabdjpfnaagreatdoor", sum := "1e1df3016bda021836cdf5e3f3caf812d751e331a291f4bb3567b08d3b0493ef", func := "familycheck/familychecklaw03.UnfoldCounts", spec := "unfoldCounts", unfollowed := true, recurses := true, named := ["strings.asciiSpace", "unicode.White_Space"], plainKeys := false, apart := false, laid := [("unicode.White_Space", laid_unicode_White_Space), ("strings.asciiSpace", laid_strings_asciiSpace)], narrowed := true }
def UnfoldCountsUptoSaid : Prop := unfoldCountsUptoRow.holds Tryz.pinned (OpenSpec.upto unfoldCountsSpec)

/-- 'familychecklaw03.UnfoldSymmetric', WHERE WHAT IT READS IS OF BULK AT MOST 1048576: true; the input reads as it did. -/
def unfoldSymmetricUptoRow : OpenClaim := { program := "ytjnjieabdjpfnaagreatdoor", sum := "1e1df3016bda021836cdf5e3f3caf812d751e331a291f4bb3567b08d3b0493ef", func := "familycheck/familychecklaw03.UnfoldSymmetric", spec := "unfoldSymmetric", unfollowed := true, recurses := true, named := ["strings.asciiSpace", "unicode.White_Space"], plainKeys := false, apart := false, laid := [("unicode.White_Space", laid_unicode_White_Space), ("strings.asciiSpace", laid_strings_asciiSpace)], narrowed := true }
def UnfoldSymmetricUptoSaid : Prop := unfoldSymmetricUptoRow.holds Tryz.pinned (OpenSpec.upto unfoldSymmetricSpec)

/-- 'familychecklaw03.UnfoldLassos', WHERE WHAT IT READS IS OF BULK AT MOST 1048576: true; the input reads as it did. -/
def unfoldLassosUptoRow : OpenClaim := { program := "ytjnjieabdjpfnaagreatdoor", sum := "1e1df3016bda021836cdf5e3f3caf812d751e331a291f4bb3567b08d3b0493ef", func := "familycheck/familychecklaw03.UnfoldLassos", spec := "unfoldLassos", unfollowed := true, recurses := true, named := ["strings.asciiSpace", "unicode.White_Space"], plainKeys := false, apart := false, laid := [("unicode.White_Space", laid_unicode_White_Space), ("strings.asciiSpace", laid_strings_asciiSpace)], narrowed := true }
def UnfoldLassosUptoSaid : Prop := unfoldLassosUptoRow.holds Tryz.pinned (OpenSpec.upto unfoldLassosSpec)

/-- 'familychecklaw03.UnfoldLassoTurns', WHERE WHAT IT READS IS OF BULK AT MOST 1048576: true; the input reads as it did. -/
def unfoldLassoTurnsUptoRow : OpenClaim := { program := "ytjnjieabdjpfnaagreatdoor", sum := "1e1df3016bda021836cdf5e3f3caf812d751e331a291f4bb3567b08d3b0493ef", func := "familycheck/familychecklaw03.UnfoldLassoTurns", spec := "unfoldLassoTurns", unfollowed := true, recurses := true, named := ["strings.asciiSpace", "unicode.White_Space"], plainKeys := false, apart := false, laid := [("unicode.White_Space", laid_unicode_White_Space), ("strings.asciiSpace", laid_strings_asciiSpace)], narrowed := true }
def UnfoldLassoTurnsUptoSaid : Prop := unfoldLassoTurnsUptoRow.holds Tryz.pinned (OpenSpec.upto unfoldLassoTurnsSpec)

end Rows
end Go.Proofs.YtjnjieabdjpfnaaGreatDoor
