
/-
  Which configurations are bad.
-/
import Derived.Test.YtgbicnldbhfhiaaDoorFoA
set_option linter.unusedVariables false
set_option linter.unusedSimpArgs false
namespace Go.Proofs.YtgbicnldbhfhiaaDoor
set_option maxRecDepth 100000
set_option maxHeartbeats 8000000

/-! ### counting -/
def cntL (n : Nat) (L : List Int) : List Int := (List.range n).map fun s : Nat => (L.count (s : Int) : Int)
theorem count_take {l : List Int} {k : Nat} (h : k < l.length) (x : Int) : (l.take (k + 1)).count x = (l.take k).count x + if l.getD k 0 = x then 1 else 0 := by
  rw [List.take_succ_eq_append_getElem h, List.count_append]
  have e : l.getD k 0 = l[k] := by rw [List.getD_eq_getElem?_getD, List.getElem?_eq_getElem h]; rfl
  rw [e, List.count_singleton]
  simp only [beq_iff_eq]
theorem cntL_len (n : Nat) (L : List Int) : (cntL n L).length = n := by simp [cntL]
theorem cntL_at {n s : Nat} (L : List Int) (h : s < n) : (cntL n L).getD s 0 = (L.count (s : Int) : Int) := getD_map_range n s (fun s : Nat => (L.count (s : Int) : Int)) h
end Go.Proofs.YtgbicnldbhfhiaaDoor
