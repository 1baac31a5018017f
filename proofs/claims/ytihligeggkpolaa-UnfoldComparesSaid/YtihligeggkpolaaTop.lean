/-
  From a contract of the walk to the row's step.
-/
import Derived.Test.YtihligeggkpolaaSymU
import Derived.RowKit3
namespace Go.Proofs.Ytihligeggkpolaa
open Go.RowKit

/-- all of a world's memory, for good -/
def Store.ofW (w : World) : Store := fun b => w.heap[b]?

theorem PSpec.walk {P : Program} {f : FuncId} {us : List AV} (h : PSpec P f us (fun u => u = .bool true)) (vs : List Value) (w : World) (hv : RPs (Store.ofW w) vs us) :
    Calls P f vs.toArray w fun e w' => e = .returned (.bool true) ∧ Grown w w' := by
  rw [PSpec_iff] at h
  refine (h.2 (Store.ofW w) (fun _ => none) vs w (fun _ _ e => e) (fun _ _ e => by cases e) (fun _ => .inr rfl) hv).mono ?_
  rintro e w' ⟨v, u, S', rfl, rfl, hle, hs, _, _, hr, hw⟩
  cases hr
  refine ⟨rfl, ⟨hw.os, hw.output, fun i hi => ?_⟩, hw.fz, hw.size⟩
  have e : w.heap[i]? = some w.heap[i] := by simp [hi]
  rw [e, hs i _ (hle i _ e)]
  cases w.heap[i] <;> simp

end Go.Proofs.Ytihligeggkpolaa
