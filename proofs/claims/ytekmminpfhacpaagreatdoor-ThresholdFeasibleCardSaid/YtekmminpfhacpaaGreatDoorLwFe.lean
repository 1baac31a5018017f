import Derived.Test.YtekmminpfhacpaaGreatDoorFeA
import Derived.Test.YtekmminpfhacpaaGreatDoorTopC
set_option linter.unusedVariables false
set_option linter.unusedSimpArgs false
namespace Go.Proofs.YtekmminpfhacpaaGreatDoor.thresholdFeasible
open Go.ChangeShapes Go.WideShapes Go.ChangeAt Go.RowKit
def z0:Value:=.slice none 0 0
theorem fit:∀t∈Tryz.f7.params.toList,Tryz.prog.readableRec t=true/\t<Tryz.prog.types.size:=by
 have:(Tryz.f7.params.toList.all fun t=>Tryz.prog.readableRec t&&decide (t<Tryz.prog.types.size))=true:=by kernel_rfl
 simpa using this
set_option maxRecDepth 100000 in
theorem li (os:Os) (started:os.Started) (H:Type) (enc:TypeId×Value->H):
  ReturnsInHanded {} Tryz.checked os 7 .any (fun w args=>(Rows.thresholdFeasibleSpec.pre enc Tryz.prog Tryz.f7 [] false w args/\laidMetH Tryz.prog y7 w)/\sizedMet enc Tryz.prog Tryz.f7 (OpenSpec.ofChange Rows.thresholdFeasibleSpec) false w args)
   (Rows.thresholdFeasibleSpec.post enc Tryz.prog Tryz.f7 false true false false):=by
 refine returnsInHanded_of_change_and (C:=Tryz.checked) (X:=fun w _=>laidMetH Tryz.prog y7 w) (fun _ _ _ hh h=>h.of_heap hh) own started (by kernel_rfl) Tryz.func7
  (ChangeSpec.witness_shaped (enc:=enc) (C:=Tryz.checked) (os:=os) (X:=fun w _=>laidMetH Tryz.prog y7 w) false (World.doorLaid Tryz.prog 4000 os) #[.agg #[.string ⟨#[]⟩,.int .i64 0,z0,z0,z0,.int .i64 0,z0,z0,z0,z0,.string ⟨#[]⟩,.int .i64 0,z0,z0,z0,z0],.agg #[z0,.int .i64 0],.int .i64 0] 8 rfl (World.shaped_of_RefB (by kernel_rfl) (by kernel_rfl)) (by kernel_rfl) (by kernel_rfl) (by kernel_rfl) (GL os _)) ?_
 intro W base args ds gs before hval0 hW _ hwt hL _
 have hval:∀(j:Nat) t v,Tryz.f7.params[j]? =some t->args[j]? =some v->Value.okWide Tryz.prog W .any base t v:=hval0
 have hW':=hW
 obtain⟨p,q,hA0,hV,rfl,hfz,hnd⟩:=hW
 have hA:DataW.TrodAll enc Tryz.prog W 0 (fun _=>true) true Tryz.f7.params.toList args.toList ds p:=hA0
 rw[Tryz.params7] at hA hval hwt
 obtain⟨v0,v1,v2,d0,d1,d2,p0,p1,p2,rfl,rfl,rfl,h0,h1,h2⟩:=trodAll_three hA
 obtain⟨rfl,rfl⟩:=trodVars_none hV
 obtain⟨y0,wf0,sz0,hr0⟩:=CT Tryz.underlying32 OG Lo (hval 0 _ v0 rfl rfl) h0 (MA (j:=0) hwt rfl rfl)
 obtain⟨y1,wf1,sz1,hr1⟩:=CT Tryz.underlying84 Pc LQ (hval 1 _ v1 rfl rfl) h1 (MA (j:=1) hwt rfl rfl)
 obtain⟨i2,hi2,rfl⟩:=NC Tryz.underlying3 (hval 2 _ v2 rfl rfl) h2
 refine((Ak (Db y0) (tU y0) (H1 sz0) (H5 sz0) (DE y1) (Pd sz1) (MS y1) i2).walkK [v0,v1,.int .i64 i2] W (Qi hL) (.cons (hr0.agg_cv (Lp y0)) (.cons (hr1.agg_cv (LR y1)) (.cons (.int _ _) (.nil _))))).mono fun e W' ⟨he,hg⟩=>?_
 subst he
 exact⟨_,rfl,Eu hW' (fun _ _ _=>(trodAll_cons_mk (shut_bool Tryz.underlying4 _) trodAll_mk0))
  (fun sp hsp=>n9 laid fit hA0 (fun x hx=>hg.sameAt (hW'.lt x (List.mem_append_left _ hx))) (fun x hx=>hsp x (List.mem_append_left _ hx)))
  (fun _ _=>rfl) rfl hg (ok_one (by kernel_rfl) rfl (okWide_bool_mk Tryz.underlying4 _))⟩
theorem and_t {a b:Bool} (h:a=true) (k:b=true):(a&&b)=true:=by rw[h,k];rfl
set_option maxHeartbeats 40000000 in
theorem cl:joinedFacts Tryz.pinned.checked.prog 7 Tryz.f7 Rows.thresholdFeasibleSpec Rows.thresholdFeasibleRow=true:=by
 unfold joinedFacts
 repeat' (with_reducible refine and_t ?_ ?_)
 all_goals as_aux_lemma=>kernel_rfl
theorem nm:Tryz.pinned.checked.prog.funcNamed Rows.thresholdFeasibleRow.func=some 7:=by kernel_rfl
theorem inst:Tryz.f7.isInstance Tryz.pinned.checked.prog Rows.thresholdFeasibleRow.origin Rows.thresholdFeasibleRow.targs:=of_decide_eq_true (by kernel_rfl)
theorem wr:Tryz.f7.isWrapper Tryz.pinned.checked.prog Rows.thresholdFeasibleRow.wrapper Rows.thresholdFeasibleRow.mainSum:=by
 unfold Func.isWrapper;first|(rw[if_pos (by decide+kernel)];kernel_rfl)|(rw[if_neg (by decide+kernel)];exact⟨rfl,rfl⟩)
theorem over:Rows.thresholdFeasibleRow.holds Tryz.pinned (OpenSpec.ofChange Rows.thresholdFeasibleSpec):=
 OpenClaim.holds_of_wide 7 Tryz.f7 rfl rfl rfl rfl rfl rfl rfl ⟨rfl,rfl,rfl,rfl,rfl⟩ rfl rfl rfl rfl rfl nm Tryz.func7 cl inst wr
  (fun os started H enc _=>li os started H enc)
end Go.Proofs.YtekmminpfhacpaaGreatDoor.thresholdFeasible
