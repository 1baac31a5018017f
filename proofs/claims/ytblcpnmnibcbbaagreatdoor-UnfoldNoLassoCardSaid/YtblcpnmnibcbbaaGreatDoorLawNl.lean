/-
  The card of the law UnfoldNoLasso: for every input the call returns true and the arguments read as they did; the tables at the package level are as the program's text lays them.
-/
import Derived.Test.YtblcpnmnibcbbaaGreatDoorLwNl
set_option linter.unusedVariables false
set_option linter.unusedSimpArgs false
namespace Go.Proofs.YtblcpnmnibcbbaaGreatDoor.unfoldNoLasso
open Go.ChangeShapes Go.WideShapes Go.ChangeAt Go.RowKit
theorem noStand:∀t∈Tryz.f5.params.toList,Tryz.prog.wantsStandIn t=false:=by
 have:(Tryz.f5.params.toList.all fun t=>!(Tryz.prog.wantsStandIn t))=true:=by kernel_rfl
 simpa using this
set_option maxHeartbeats 40000000 in
theorem card:Claim7.holds Tryz.pinned (.plain (OpenSpec.ofChange Rows.unfoldNoLassoSpec)) Rows.unfoldNoLassoCard:=
 Claim7.holds_tied_plain_at .later [] [.listed, .data] true (true,"ef83bdfe7e0ad6dea2f999beb6bb5b9aba1fe84ff0a2d0a7a284ba7e268158be") false
  over (fun _ h=>by cases h) (by as_aux_lemma=>kernel_rfl) (fun _ h=>by cases h) unfoldNoLasso_row_tie rfl ⟨rfl,rfl⟩ (by as_aux_lemma=>kernel_rfl) rfl
  (fun f fn hf hfn=>by
   obtain rfl:f=5:=Option.some.inj ((show Tryz.prog.funcNamed Rows.unfoldNoLassoRow.func=some 5 by kernel_rfl).symm.trans hf) |>.symm
   obtain rfl:fn=Tryz.f5:=(Option.some.inj (Tryz.func5.symm.trans hfn)).symm
   exact⟨by kernel_rfl,fun j t ht=>noStand t (by
    have:Tryz.f5.params.toList[j]? =some t:=by simpa using ht
    exact List.mem_of_getElem? this)⟩)
  (by as_aux_lemma=>kernel_rfl)
end Go.Proofs.YtblcpnmnibcbbaaGreatDoor.unfoldNoLasso
namespace Go.Proofs.YtblcpnmnibcbbaaGreatDoor
theorem unfoldNoLasso_holds:Rows.UnfoldNoLassoCardSaid:=unfoldNoLasso.card
end Go.Proofs.YtblcpnmnibcbbaaGreatDoor
