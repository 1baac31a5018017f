import Derived.Test.YtjnjieabdjpfnaaGreatDoorLwL
set_option linter.unusedVariables false
set_option linter.unusedSimpArgs false
namespace Go.Proofs.YtjnjieabdjpfnaaGreatDoor.unfoldMonotone
open Go.ChangeShapes Go.WideShapes Go.ChangeAt Go.RowKit
theorem noStand : ∀ t ∈ Tryz.f7.params.toList, Tryz.prog.wantsStandIn t = false := by
 have : (Tryz.f7.params.toList.all fun t => !(Tryz.prog.wantsStandIn t)) = true := by kernel_rfl
 simpa using this
set_option maxHeartbeats 40000000 in
theorem card : Claim7.holds Tryz.pinned (.plain (OpenSpec.ofChange Rows.unfoldMonotoneSpec)) Rows.unfoldMonotoneCard :=
 Claim7.holds_tied_plain_at .later [] [.listed, .data] true (true, "5ad292f4d1b56101eedd81f022ddc6b34d41317e677ac2962d4b9457c587b6d8") false
  over (fun _ h => by cases h) (by as_aux_lemma => kernel_rfl) (fun _ h => by cases h) unfoldMonotone_row_tie rfl ⟨rfl, rfl⟩ (by as_aux_lemma => kernel_rfl) rfl
  (fun f fn hf hfn => by
   obtain rfl : f = 7 := Option.some.inj ((show Tryz.prog.funcNamed Rows.unfoldMonotoneRow.func = some 7 by kernel_rfl).symm.trans hf) |>.symm
   obtain rfl : fn = Tryz.f7 := (Option.some.inj (Tryz.func7.symm.trans hfn)).symm
   exact ⟨by as_aux_lemma => kernel_rfl, fun j t ht => noStand t (by
    have : Tryz.f7.params.toList[j]? = some t := by simpa using ht
    exact List.mem_of_getElem? this)⟩)
  (by as_aux_lemma => kernel_rfl)
end Go.Proofs.YtjnjieabdjpfnaaGreatDoor.unfoldMonotone
namespace Go.Proofs.YtjnjieabdjpfnaaGreatDoor
theorem unfoldMonotone_holds : Rows.UnfoldMonotoneCardSaid := unfoldMonotone.card
end Go.Proofs.YtjnjieabdjpfnaaGreatDoor
