import Derived.Test.YtnjggjhkfncnlaaGreatDoorHD
import Derived.Test.YtnjggjhkfncnlaaGreatDoorY1
import Derived.Test.YtnjggjhkfncnlaaGreatDoorTopC
set_option linter.unusedVariables false
set_option linter.unusedSimpArgs false
namespace Go.Proofs.YtnjggjhkfncnlaaGreatDoor.thresholdConcretizes
open Go.ChangeShapes Go.WideShapes Go.ChangeAt Go.RowKit
theorem fit:∀t∈Tryz.f4.params.toList,Tryz.prog.readableRec t=true/\t<Tryz.prog.types.size:=by
 have:(Tryz.f4.params.toList.all fun t=>Tryz.prog.readableRec t&&decide (t<Tryz.prog.types.size))=true:=by kernel_rfl
 simpa using this
set_option maxRecDepth 100000 in
theorem lifted (os:Os) (started:os.Started) (H:Type) (enc:TypeId×Value->H):
  ReturnsInHanded {} Tryz.checked os 4 .any (fun w args=>(Rows.thresholdConcretizesSpec.pre enc Tryz.prog Tryz.f4 [] false w args/\laidMetH Tryz.prog vd w)/\sizedMet enc Tryz.prog Tryz.f4 (OpenSpec.ofChange Rows.thresholdConcretizesSpec) false w args)
   (Rows.thresholdConcretizesSpec.post enc Tryz.prog Tryz.f4 false true false false):=by
 refine returnsInHanded_of_change_and (C:=Tryz.checked) (X:=fun w _=>laidMetH Tryz.prog vd w) (fun _ _ _ hh h=>h.of_heap hh) own started (by kernel_rfl) Tryz.func4
  (ChangeSpec.witness_shaped (enc:=enc) (C:=Tryz.checked) (os:=os) (X:=fun w _=>laidMetH Tryz.prog vd w) false (World.doorLaid Tryz.prog 4000 os) #[.agg #[.string ⟨#[]⟩, .int .i64 0, .slice none 0 0, .slice none 0 0, .slice none 0 0, .int .i64 0, .slice none 0 0, .slice none 0 0, .slice none 0 0, .slice none 0 0, .string ⟨#[]⟩, .int .i64 0, .slice none 0 0, .slice none 0 0, .slice none 0 0, .slice none 0 0], .agg #[.slice none 0 0, .int .i64 0], .slice none 0 0] 8 rfl (World.shaped_of_RefB (by kernel_rfl) (by kernel_rfl)) (by kernel_rfl) (by kernel_rfl) (by kernel_rfl) (BL os _)) ?_
 intro W base args ds gs before hval0 hW _ hwt hL _
 have hval:∀(j:Nat) t v,Tryz.f4.params[j]? =some t->args[j]? =some v->Value.okWide Tryz.prog W .any base t v:=hval0
 have hW':=hW
 obtain⟨p,q,hA0,hV,rfl,hfz,hnd⟩:=hW
 have hA:DataW.TrodAll enc Tryz.prog W 0 (fun _=>true) true Tryz.f4.params.toList args.toList ds p:=hA0
 rw[Tryz.params4] at hA hval hwt
 obtain⟨v0,v1,v2,d0,d1,d2,p0,p1,p2,rfl,rfl,rfl,h0,h1,h2⟩:=trodAll_three hA
 obtain⟨rfl,rfl⟩:=trodVars_none hV
 obtain⟨y0,wf0,sz0,hr0⟩:=yl Tryz.underlying32 HK Fr (hval 0 _ v0 rfl rfl) h0 (Cn (j:=0) hwt rfl rfl)
 obtain⟨y1,wf1,sz1,hr1⟩:=yl Tryz.underlying47 Im FR (hval 1 _ v1 rfl rfl) h1 (Cn (j:=1) hwt rfl rfl)
 obtain⟨y2,wf2,sz2,hr2⟩:=Hg Tryz.underlying24 HO Fx (hval 2 _ v2 rfl rfl) h2 (Cn (j:=2) hwt rfl rfl)
 refine((qB (yC y0) (qj y0) (Da sz0) (Db sz0) (yW y1) (Io sz1) (Gq y1) (jH y2.1) (by rw[jj];exact sz2.1.1)).walkK [v0,v1,v2] W (I5 hL) (.cons (hr0.agg_cv (Fs y0)) (.cons (hr1.agg_cv (FS y1)) (.cons (Fy y2 hr2) (.nil _))))).mono fun e W' ⟨he,hg⟩=>?_
 subst he
 exact⟨_,rfl,zo hW' (fun _ _ _=>(trodAll_cons_mk (shut_bool Tryz.underlying4 _) trodAll_mk0))
  (fun sp hsp=>ly laid fit hA0 (fun x hx=>hg.sameAt (hW'.lt x (List.mem_append_left _ hx))) (fun x hx=>hsp x (List.mem_append_left _ hx)))
  (fun _ _=>rfl) rfl hg (ok_one (by kernel_rfl) rfl (okWide_bool_mk Tryz.underlying4 _))⟩
theorem and_t {a b:Bool} (h:a=true) (k:b=true):(a&&b)=true:=by rw[h,k];rfl
set_option maxHeartbeats 40000000 in
theorem closed:joinedFacts Tryz.pinned.checked.prog 4 Tryz.f4 Rows.thresholdConcretizesSpec Rows.thresholdConcretizesRow=true:=by
 unfold joinedFacts
 repeat' (with_reducible refine and_t ?_ ?_)
 all_goals as_aux_lemma=>kernel_rfl
theorem named:Tryz.pinned.checked.prog.funcNamed Rows.thresholdConcretizesRow.func=some 4:=by kernel_rfl
theorem inst:Tryz.f4.isInstance Tryz.pinned.checked.prog Rows.thresholdConcretizesRow.origin Rows.thresholdConcretizesRow.targs:=of_decide_eq_true (by kernel_rfl)
theorem wrapped:Tryz.f4.isWrapper Tryz.pinned.checked.prog Rows.thresholdConcretizesRow.wrapper Rows.thresholdConcretizesRow.mainSum:=by
 unfold Func.isWrapper;first|(rw[if_pos (by decide+kernel)];kernel_rfl)|(rw[if_neg (by decide+kernel)];exact⟨rfl,rfl⟩)
theorem over:Rows.thresholdConcretizesRow.holds Tryz.pinned (OpenSpec.ofChange Rows.thresholdConcretizesSpec):=
 OpenClaim.holds_of_wide 4 Tryz.f4 rfl rfl rfl rfl rfl rfl rfl ⟨rfl,rfl,rfl,rfl,rfl⟩ rfl rfl rfl rfl rfl named Tryz.func4 closed inst wrapped
  (fun os started H enc _=>lifted os started H enc)
theorem noStand:∀t∈Tryz.f4.params.toList,Tryz.prog.wantsStandIn t=false:=by
 have:(Tryz.f4.params.toList.all fun t=>!(Tryz.prog.wantsStandIn t))=true:=by kernel_rfl
 simpa using this
theorem card:Claim7.holds Tryz.pinned (.plain (OpenSpec.ofChange Rows.thresholdConcretizesSpec)) Rows.thresholdConcretizesCard:=
 Claim7.holds_tied_plain_at .later [] [.listed, .data] true (true,"de5afa911a6f80d71e7ab184e544ba8961eeaecfd0462e0737cb4278e7b2e54b") false
  over (fun _ h=>by cases h) (by kernel_rfl) (fun _ h=>by cases h) thresholdConcretizes_row_tie rfl ⟨rfl,rfl⟩ (by kernel_rfl) rfl
  (fun f fn hf hfn=>by
   obtain rfl:f=4:=Option.some.inj ((show Tryz.prog.funcNamed Rows.thresholdConcretizesRow.func=some 4 by kernel_rfl).symm.trans hf) |>.symm
   obtain rfl:fn=Tryz.f4:=(Option.some.inj (Tryz.func4.symm.trans hfn)).symm
   exact⟨by kernel_rfl,fun j t ht=>noStand t (by
    have:Tryz.f4.params.toList[j]? =some t:=by simpa using ht
    exact List.mem_of_getElem? this)⟩)
  (by kernel_rfl)
end Go.Proofs.YtnjggjhkfncnlaaGreatDoor.thresholdConcretizes
namespace Go.Proofs.YtnjggjhkfncnlaaGreatDoor
theorem thresholdConcretizes_holds:Rows.ThresholdConcretizesCardSaid:=thresholdConcretizes.card
end Go.Proofs.YtnjggjhkfncnlaaGreatDoor
