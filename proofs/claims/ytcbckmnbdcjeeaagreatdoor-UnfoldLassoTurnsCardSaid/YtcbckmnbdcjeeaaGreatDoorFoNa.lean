
/-
  Answers that are a list of configurations and an error.
-/
import Derived.Test.YtcbckmnbdcjeeaaGreatDoorFoN
set_option linter.unusedVariables false
set_option linter.unusedSimpArgs false
namespace Go.Proofs.YtcbckmnbdcjeeaaGreatDoor
set_option maxRecDepth 100000
set_option maxHeartbeats 16000000

def rpA (l : List Cfg) (e : Int) : AV := .tup [.sl cfg0 encC l, .int .i64 e]
def rowC (l : List Cfg) : Blk := .row 29 cfg0 encC l
/-- an answer that is a run, told with nil or with a list -/
def rpU (v : AV) : AV → Prop := fun u => u = v ∨ ∃ e, u = .tup [.nilsl, .int .i64 e] ∧ v = rpA [] e
theorem PSpec.rp {f : FuncId} {args : List AV} {v : AV} (hf : ∃ l e, v = rpA l e) (h : PSpec Tryz.prog f args (rpU v)) : PSpec Tryz.prog f args (fun u => u = v) := by
  obtain ⟨l, e, rfl⟩ := hf
  refine PSpec.sub h ?_
  rintro u (rfl | ⟨e', rfl, h2⟩)
  · exact ⟨_, rfl, auto_, rfl⟩
  · rw [h2]; exact ⟨_, rfl, auto_, rfl⟩
end Go.Proofs.YtcbckmnbdcjeeaaGreatDoor
