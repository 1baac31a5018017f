import Derived.Test.YtaeomngmcfdfpaaGreatDoorTopC
set_option linter.unusedVariables false
set_option linter.unusedSimpArgs false
namespace Go.Proofs.YtaeomngmcfdfpaaGreatDoor
open Go.ChangeShapes Go.WideShapes Go.ChangeAt Go.RowKit
theorem PSpec.walkK {P : Program} {f : FuncId} {us : List AV} (h : PSpec P f us (fun u => u = .bool true)) (vs : List Value) (w : World) (hG : Gl (Store.ofW w)) (hv : RPs (Store.ofW w) vs us) :
  Calls P f vs.toArray w fun e w' => e = .returned (.bool true) ∧ Kept w w' := by
 rw [PSpec_iff] at h
 refine (h.2 (Store.ofW w) (fun _ => none) vs w hG (fun _ _ e => e) (fun _ _ e => by cases e) (fun _ => .inr rfl) hv).mono ?_
 rintro e w' ⟨v, u, S', rfl, rfl, hle, hs, _, _, hr, hw⟩
 cases hr
 refine ⟨rfl, fun b o hb => hs b o (hle b o hb), ⟨hw.os, hw.output, fun i hi => ?_⟩, hw.fz, hw.size⟩
 have e : w.heap[i]? = some w.heap[i] := by simp [hi]
 rw [e, hs i _ (hle i _ e)]
 cases w.heap[i] <;> simp
theorem Kept.sameAt {W W' : World} (h : Kept W W') {p : MemPlace} (hp : p.block < W.heap.size) : W.sameAt W' p := by
 cases p with
 |cell b off =>
  obtain ⟨o, e⟩ : ∃ o, W.heap[b]? = some o := ⟨_, Array.getElem?_eq_getElem hp⟩
  show W'.cell? _ = W.cell? _
  simp only [World.cell?, e, h.1 b _ e]
 |map b =>
  obtain ⟨o, e⟩ : ∃ o, W.heap[b]? = some o := ⟨_, Array.getElem?_eq_getElem hp⟩
  show W'.heap[b]? = W.heap[b]?
  rw [e, h.1 b _ e]
theorem RP.agg_cv {S : Store} {v : Value} {cs cs' : List AV} (h : RP S v (.agg cs)) (hc : CvL S cs cs') : RP S v (.agg cs') := by
 cases h with
 |agg _ vs hs vals he hv =>
  refine .agg cs' vs (by rw [hs, hc.len]) vals he fun j u' hu => ?_
  obtain ⟨u, hu1, hu2⟩ := hc.get j u' hu
  exact hu2 _ (hv j u hu1)
end Go.Proofs.YtaeomngmcfdfpaaGreatDoor
