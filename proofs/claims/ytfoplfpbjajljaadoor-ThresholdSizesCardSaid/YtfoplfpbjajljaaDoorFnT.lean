import Derived.Test.YtfoplfpbjajljaaDoorM2
set_option linter.unusedVariables false
set_option linter.unusedSimpArgs false
namespace Go.Proofs.YtfoplfpbjajljaaDoor
set_option maxRecDepth 100000
set_option maxHeartbeats 8000000
theorem orL_z {a : Int} {l : List Int} (h : a = 0) : orL (a :: l) = orL l := by rw [orL, if_neg (by omega)]
theorem orL_nz {a : Int} {l : List Int} (h : a ≠ 0) : orL (a :: l) = a := by rw [orL, if_pos h]
theorem orL_app2 (l m : List Int) : orL (l ++ m) = if orL l ≠ 0 then orL l else orL m := by
 induction l with
 | nil => simp [orL]
 | cons a l ih =>
  simp only [List.cons_append, orL]
  by_cases h : a = 0
  ·simp [h, ih]
  ·simp [h]
end Go.Proofs.YtfoplfpbjajljaaDoor
