/- The card of the law ThresholdFeasible. -/
import Derived.Test.YtekmminpfhacpaaGreatDoorLwFe
set_option linter.unusedVariables false
set_option linter.unusedSimpArgs false
namespace Go.Proofs.YtekmminpfhacpaaGreatDoor.thresholdFeasible
open Go.ChangeShapes Go.WideShapes Go.ChangeAt Go.RowKit
theorem nS:∀t∈Tryz.f7.params.toList,Tryz.prog.wantsStandIn t=false:=by
 have:(Tryz.f7.params.toList.all fun t=>!(Tryz.prog.wantsStandIn t))=true:=by kernel_rfl
 simpa using this
set_option maxHeartbeats 40000000 in
theorem card:Claim7.holds Tryz.pinned (.plain (OpenSpec.ofChange Rows.thresholdFeasibleSpec)) Rows.thresholdFeasibleCard:=
 Claim7.holds_tied_plain_at .later [] [.listed,.data] true (true,"56e3e5356a3dba5896033622894f7797520069dba051af286d1588fd02e584fe") false
  over (fun _ h=>by cases h) (by as_aux_lemma=>kernel_rfl) (fun _ h=>by cases h) thresholdFeasible_row_tie rfl ⟨rfl,rfl⟩ (by as_aux_lemma=>kernel_rfl) rfl
  (fun f fn hf hfn=>by
   obtain rfl:f=7:=Option.some.inj ((show Tryz.prog.funcNamed Rows.thresholdFeasibleRow.func=some 7 by kernel_rfl).symm.trans hf) |>.symm
   obtain rfl:fn=Tryz.f7:=(Option.some.inj (Tryz.func7.symm.trans hfn)).symm
   exact⟨by kernel_rfl,fun j t ht=>nS t (by
    have:Tryz.f7.params.toList[j]? =some t:=by simpa using ht
    exact List.mem_of_getElem? this)⟩)
  (by as_aux_lemma=>kernel_rfl)
end Go.Proofs.YtekmminpfhacpaaGreatDoor.thresholdFeasible
namespace Go.Proofs.YtekmminpfhacpaaGreatDoor
theorem thresholdFeasible_holds:Rows.ThresholdFeasibleCardSaid:=thresholdFeasible.card
end Go.Proofs.YtekmminpfhacpaaGreatDoor
