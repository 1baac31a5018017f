/-
  The card of the law UnfoldSmallestLasso: for every input the call returns true and the arguments read as they did; the tables at the package level are as the program's text lays them.
-/
import Derived.Test.YtokjgegkhlkopaaGreatDoorLwSl
set_option linter.unusedVariables false
set_option linter.unusedSimpArgs false
namespace Go.Proofs.YtokjgegkhlkopaaGreatDoor.unfoldSmallestLasso
open Go.ChangeShapes Go.WideShapes Go.ChangeAt Go.RowKit
theorem noStand:∀t∈Tryz.f4.params.toList,Tryz.prog.wantsStandIn t=false:=by
 have:(Tryz.f4.params.toList.all fun t=>!(Tryz.prog.wantsStandIn t))=true:=by kernel_rfl
 simpa using this
set_option maxHeartbeats 40000000 in
theorem card:Claim7.holds Tryz.pinned (.plain (OpenSpec.ofChange Rows.unfoldSmallestLassoSpec)) Rows.unfoldSmallestLassoCard:=
 Claim7.holds_tied_plain_at .later [] [.listed, .data] true (true,"009d9851f3069c5b7e3aae0beb5dd0878c9df4a2642ffd33aced7f53e17e78e5") false
  over (fun _ h=>by cases h) (by as_aux_lemma=>kernel_rfl) (fun _ h=>by cases h) unfoldSmallestLasso_row_tie rfl ⟨rfl,rfl⟩ (by as_aux_lemma=>kernel_rfl) rfl
  (fun f fn hf hfn=>by
   obtain rfl:f=4:=Option.some.inj ((show Tryz.prog.funcNamed Rows.unfoldSmallestLassoRow.func=some 4 by kernel_rfl).symm.trans hf) |>.symm
   obtain rfl:fn=Tryz.f4:=(Option.some.inj (Tryz.func4.symm.trans hfn)).symm
   exact⟨by kernel_rfl,fun j t ht=>noStand t (by
    have:Tryz.f4.params.toList[j]? =some t:=by simpa using ht
    exact List.mem_of_getElem? this)⟩)
  (by as_aux_lemma=>kernel_rfl)
end Go.Proofs.YtokjgegkhlkopaaGreatDoor.unfoldSmallestLasso
namespace Go.Proofs.YtokjgegkhlkopaaGreatDoor
theorem unfoldSmallestLasso_holds:Rows.UnfoldSmallestLassoCardSaid:=unfoldSmallestLasso.card
end Go.Proofs.YtokjgegkhlkopaaGreatDoor
