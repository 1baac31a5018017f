/-
  DERIVED. GIVEN WITH THE SEED: THE PROGRAM's TIES (one call each: nine closed facts by the kernel) AND EACH ROW's TIE, after the 31st guide's Derived/Test/Toyas{Tie, Card}.lean. No idea stands in it: it is a product of the set-up. Laid BY PROGRAM, IN A SANDBOX (cutbox-door.mjs). By AI agents, Wed Nov 11 2026. No macro, syntax, notation, axiom, sorry.
-/
import Derived.Test.YtjnjieabdjpfnaaGreatDoorRows
import Derived.LaidByTextLater
import Derived.SevenTiedAt
import Derived.LaidSub
import Derived.LaidOnce
namespace Go.Proofs.YtjnjieabdjpfnaaGreatDoor
open Go
set_option maxRecDepth 100000
theorem seatTie1 : Tryz.prog.laidByTextLater [("unicode.White_Space", Rows.laid_unicode_White_Space), ("strings.asciiSpace", Rows.laid_strings_asciiSpace)] [.listed, .data] true :=
  Program.laidByTextLater_by_one 33 8 257 (by kernel_rfl) (by kernel_rfl) (by kernel_rfl) (by kernel_rfl) (by kernel_rfl) (by kernel_rfl) (fun _ _ => by kernel_rfl)
theorem noOwnUnsafe : Tryz.pinned.checked.prog.headLifts.contains "ownunsafe" = false := by kernel_rfl
theorem tie : Tryz.prog.laidByTextLater [("unicode.White_Space", Rows.laid_unicode_White_Space), ("strings.asciiSpace", Rows.laid_strings_asciiSpace)] [.listed, .data] true :=
  Program.laidByTextLater.sub seatTie1 ["unicode.White_Space", "strings.asciiSpace"] (by kernel_rfl) (by kernel_rfl)
theorem unfoldValidates_row_tie : Rows.unfoldValidatesRow.laidByTextAt .later Tryz.pinned [.listed, .data] true :=
  OpenClaim.laidByTextAt_later rfl rfl tie noOwnUnsafe
theorem unfoldJudges_row_tie : Rows.unfoldJudgesRow.laidByTextAt .later Tryz.pinned [.listed, .data] true :=
  OpenClaim.laidByTextAt_later rfl rfl tie noOwnUnsafe
theorem unfoldEnables_row_tie : Rows.unfoldEnablesRow.laidByTextAt .later Tryz.pinned [.listed, .data] true :=
  OpenClaim.laidByTextAt_later rfl rfl tie noOwnUnsafe
theorem unfoldForces_row_tie : Rows.unfoldForcesRow.laidByTextAt .later Tryz.pinned [.listed, .data] true :=
  OpenClaim.laidByTextAt_later rfl rfl tie noOwnUnsafe
theorem unfoldMonotone_row_tie : Rows.unfoldMonotoneRow.laidByTextAt .later Tryz.pinned [.listed, .data] true :=
  OpenClaim.laidByTextAt_later rfl rfl tie noOwnUnsafe
theorem unfoldApplies_row_tie : Rows.unfoldAppliesRow.laidByTextAt .later Tryz.pinned [.listed, .data] true :=
  OpenClaim.laidByTextAt_later rfl rfl tie noOwnUnsafe
theorem unfoldReplays_row_tie : Rows.unfoldReplaysRow.laidByTextAt .later Tryz.pinned [.listed, .data] true :=
  OpenClaim.laidByTextAt_later rfl rfl tie noOwnUnsafe
theorem unfoldStarts_row_tie : Rows.unfoldStartsRow.laidByTextAt .later Tryz.pinned [.listed, .data] true :=
  OpenClaim.laidByTextAt_later rfl rfl tie noOwnUnsafe
theorem unfoldStartsAll_row_tie : Rows.unfoldStartsAllRow.laidByTextAt .later Tryz.pinned [.listed, .data] true :=
  OpenClaim.laidByTextAt_later rfl rfl tie noOwnUnsafe
theorem unfoldSteps_row_tie : Rows.unfoldStepsRow.laidByTextAt .later Tryz.pinned [.listed, .data] true :=
  OpenClaim.laidByTextAt_later rfl rfl tie noOwnUnsafe
theorem unfoldViolates_row_tie : Rows.unfoldViolatesRow.laidByTextAt .later Tryz.pinned [.listed, .data] true :=
  OpenClaim.laidByTextAt_later rfl rfl tie noOwnUnsafe
theorem unfoldCounts_row_tie : Rows.unfoldCountsRow.laidByTextAt .later Tryz.pinned [.listed, .data] true :=
  OpenClaim.laidByTextAt_later rfl rfl tie noOwnUnsafe
theorem unfoldSymmetric_row_tie : Rows.unfoldSymmetricRow.laidByTextAt .later Tryz.pinned [.listed, .data] true :=
  OpenClaim.laidByTextAt_later rfl rfl tie noOwnUnsafe
theorem unfoldLassos_row_tie : Rows.unfoldLassosRow.laidByTextAt .later Tryz.pinned [.listed, .data] true :=
  OpenClaim.laidByTextAt_later rfl rfl tie noOwnUnsafe
theorem unfoldLassoTurns_row_tie : Rows.unfoldLassoTurnsRow.laidByTextAt .later Tryz.pinned [.listed, .data] true :=
  OpenClaim.laidByTextAt_later rfl rfl tie noOwnUnsafe
theorem unfoldValidatesUpto_row_tie : Rows.unfoldValidatesUptoRow.laidByTextAt .later Tryz.pinned [.listed, .data] true :=
  OpenClaim.laidByTextAt_later rfl rfl tie noOwnUnsafe
theorem unfoldJudgesUpto_row_tie : Rows.unfoldJudgesUptoRow.laidByTextAt .later Tryz.pinned [.listed, .data] true :=
  OpenClaim.laidByTextAt_later rfl rfl tie noOwnUnsafe
theorem unfoldEnablesUpto_row_tie : Rows.unfoldEnablesUptoRow.laidByTextAt .later Tryz.pinned [.listed, .data] true :=
  OpenClaim.laidByTextAt_later rfl rfl tie noOwnUnsafe
theorem unfoldForcesUpto_row_tie : Rows.unfoldForcesUptoRow.laidByTextAt .later Tryz.pinned [.listed, .data] true :=
  OpenClaim.laidByTextAt_later rfl rfl tie noOwnUnsafe
theorem unfoldMonotoneUpto_row_tie : Rows.unfoldMonotoneUptoRow.laidByTextAt .later Tryz.pinned [.listed, .data] true :=
  OpenClaim.laidByTextAt_later rfl rfl tie noOwnUnsafe
theorem unfoldAppliesUpto_row_tie : Rows.unfoldAppliesUptoRow.laidByTextAt .later Tryz.pinned [.listed, .data] true :=
  OpenClaim.laidByTextAt_later rfl rfl tie noOwnUnsafe
theorem unfoldReplaysUpto_row_tie : Rows.unfoldReplaysUptoRow.laidByTextAt .later Tryz.pinned [.listed, .data] true :=
  OpenClaim.laidByTextAt_later rfl rfl tie noOwnUnsafe
theorem unfoldStartsUpto_row_tie : Rows.unfoldStartsUptoRow.laidByTextAt .later Tryz.pinned [.listed, .data] true :=
  OpenClaim.laidByTextAt_later rfl rfl tie noOwnUnsafe
theorem unfoldStartsAllUpto_row_tie : Rows.unfoldStartsAllUptoRow.laidByTextAt .later Tryz.pinned [.listed, .data] true :=
  OpenClaim.laidByTextAt_later rfl rfl tie noOwnUnsafe
theorem unfoldStepsUpto_row_tie : Rows.unfoldStepsUptoRow.laidByTextAt .later Tryz.pinned [.listed, .data] true :=
  OpenClaim.laidByTextAt_later rfl rfl tie noOwnUnsafe
theorem unfoldViolatesUpto_row_tie : Rows.unfoldViolatesUptoRow.laidByTextAt .later Tryz.pinned [.listed, .data] true :=
  OpenClaim.laidByTextAt_later rfl rfl tie noOwnUnsafe
theorem unfoldCountsUpto_row_tie : Rows.unfoldCountsUptoRow.laidByTextAt .later Tryz.pinned [.listed, .data] true :=
  OpenClaim.laidByTextAt_later rfl rfl tie noOwnUnsafe
theorem unfoldSymmetricUpto_row_tie : Rows.unfoldSymmetricUptoRow.laidByTextAt .later Tryz.pinned [.listed, .data] true :=
  OpenClaim.laidByTextAt_later rfl rfl tie noOwnUnsafe
theorem unfoldLassosUpto_row_tie : Rows.unfoldLassosUptoRow.laidByTextAt .later Tryz.pinned [.listed, .data] true :=
  OpenClaim.laidByTextAt_later rfl rfl tie noOwnUnsafe
theorem unfoldLassoTurnsUpto_row_tie : Rows.unfoldLassoTurnsUptoRow.laidByTextAt .later Tryz.pinned [.listed, .data] true :=
  OpenClaim.laidByTextAt_later rfl rfl tie noOwnUnsafe
end Go.Proofs.YtjnjieabdjpfnaaGreatDoor
