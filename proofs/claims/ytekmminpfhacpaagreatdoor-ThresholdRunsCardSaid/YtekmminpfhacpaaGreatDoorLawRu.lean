/-
  The card of the law ThresholdRuns: for every input the call returns true and the arguments read as they did; the tables at the package level are as the program's text lays them.
-/
import Derived.Test.YtekmminpfhacpaaGreatDoorLwRu
set_option linter.unusedVariables false
set_option linter.unusedSimpArgs false
namespace Go.Proofs.YtekmminpfhacpaaGreatDoor.thresholdRuns
open Go.ChangeShapes Go.WideShapes Go.ChangeAt Go.RowKit
theorem noStand:∀t∈Tryz.f6.params.toList,Tryz.prog.wantsStandIn t=false:=by
 have:(Tryz.f6.params.toList.all fun t=>!(Tryz.prog.wantsStandIn t))=true:=by kernel_rfl
 simpa using this
set_option maxHeartbeats 40000000 in
theorem card:Claim7.holds Tryz.pinned (.plain (OpenSpec.ofChange Rows.thresholdRunsSpec)) Rows.thresholdRunsCard:=
 Claim7.holds_tied_plain_at .later [] [.listed, .data] true (true,"56e3e5356a3dba5896033622894f7797520069dba051af286d1588fd02e584fe") false
  over (fun _ h=>by cases h) (by as_aux_lemma=>kernel_rfl) (fun _ h=>by cases h) thresholdRuns_row_tie rfl ⟨rfl,rfl⟩ (by as_aux_lemma=>kernel_rfl) rfl
  (fun f fn hf hfn=>by
   obtain rfl:f=6:=Option.some.inj ((show Tryz.prog.funcNamed Rows.thresholdRunsRow.func=some 6 by kernel_rfl).symm.trans hf) |>.symm
   obtain rfl:fn=Tryz.f6:=(Option.some.inj (Tryz.func6.symm.trans hfn)).symm
   exact⟨by kernel_rfl,fun j t ht=>noStand t (by
    have:Tryz.f6.params.toList[j]? =some t:=by simpa using ht
    exact List.mem_of_getElem? this)⟩)
  (by as_aux_lemma=>kernel_rfl)
end Go.Proofs.YtekmminpfhacpaaGreatDoor.thresholdRuns
namespace Go.Proofs.YtekmminpfhacpaaGreatDoor
theorem thresholdRuns_holds:Rows.ThresholdRunsCardSaid:=thresholdRuns.card
end Go.Proofs.YtekmminpfhacpaaGreatDoor
