/-
  The card of the law ThresholdProves: for every input the call returns true and the arguments read as they did; the tables at the package level are as the program's text lays them.
-/
import Derived.Test.YtekmminpfhacpaaGreatDoorLwPv
set_option linter.unusedVariables false
set_option linter.unusedSimpArgs false
namespace Go.Proofs.YtekmminpfhacpaaGreatDoor.thresholdProves
open Go.ChangeShapes Go.WideShapes Go.ChangeAt Go.RowKit
theorem noStand:∀t∈Tryz.f3.params.toList,Tryz.prog.wantsStandIn t=false:=by
 have:(Tryz.f3.params.toList.all fun t=>!(Tryz.prog.wantsStandIn t))=true:=by kernel_rfl
 simpa using this
set_option maxHeartbeats 40000000 in
theorem card:Claim7.holds Tryz.pinned (.plain (OpenSpec.ofChange Rows.thresholdProvesSpec)) Rows.thresholdProvesCard:=
 Claim7.holds_tied_plain_at .later [] [.listed, .data] true (true,"56e3e5356a3dba5896033622894f7797520069dba051af286d1588fd02e584fe") false
  over (fun _ h=>by cases h) (by as_aux_lemma=>kernel_rfl) (fun _ h=>by cases h) thresholdProves_row_tie rfl ⟨rfl,rfl⟩ (by as_aux_lemma=>kernel_rfl) rfl
  (fun f fn hf hfn=>by
   obtain rfl:f=3:=Option.some.inj ((show Tryz.prog.funcNamed Rows.thresholdProvesRow.func=some 3 by kernel_rfl).symm.trans hf) |>.symm
   obtain rfl:fn=Tryz.f3:=(Option.some.inj (Tryz.func3.symm.trans hfn)).symm
   exact⟨by kernel_rfl,fun j t ht=>noStand t (by
    have:Tryz.f3.params.toList[j]? =some t:=by simpa using ht
    exact List.mem_of_getElem? this)⟩)
  (by as_aux_lemma=>kernel_rfl)
end Go.Proofs.YtekmminpfhacpaaGreatDoor.thresholdProves
namespace Go.Proofs.YtekmminpfhacpaaGreatDoor
theorem thresholdProves_holds:Rows.ThresholdProvesCardSaid:=thresholdProves.card
end Go.Proofs.YtekmminpfhacpaaGreatDoor
