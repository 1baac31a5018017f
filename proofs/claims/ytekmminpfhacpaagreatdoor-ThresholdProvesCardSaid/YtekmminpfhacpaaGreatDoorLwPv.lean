import Derived.Test.YtekmminpfhacpaaGreatDoorPV
import Derived.Test.YtekmminpfhacpaaGreatDoorLvPv
set_option linter.unusedVariables false
set_option linter.unusedSimpArgs false
namespace Go.Proofs.YtekmminpfhacpaaGreatDoor.thresholdProves
open Go.ChangeShapes Go.WideShapes Go.ChangeAt Go.RowKit
set_option maxRecDepth 100000 in
theorem lifted (os:Os) (started:os.Started) (H:Type) (enc:TypeId×Value->H):
  ReturnsInHanded {} Tryz.checked os 3 .any (fun w args=>(Rows.thresholdProvesSpec.pre enc Tryz.prog Tryz.f3 [] false w args/\laidMetH Tryz.prog zg w)/\sizedMet enc Tryz.prog Tryz.f3 (OpenSpec.ofChange Rows.thresholdProvesSpec) false w args)
   (Rows.thresholdProvesSpec.post enc Tryz.prog Tryz.f3 false true false false):=by
 refine returnsInHanded_of_change_and (C:=Tryz.checked) (X:=fun w _=>laidMetH Tryz.prog zg w) (fun _ _ _ hh h=>h.of_heap hh) own started (by kernel_rfl) Tryz.func3
  (ChangeSpec.witness_shaped (enc:=enc) (C:=Tryz.checked) (os:=os) (X:=fun w _=>laidMetH Tryz.prog zg w) false (World.doorLaid Tryz.prog 4000 os) #[.agg #[.string ⟨#[]⟩, .int .i64 0, .slice none 0 0, .slice none 0 0, .slice none 0 0, .int .i64 0, .slice none 0 0, .slice none 0 0, .slice none 0 0, .slice none 0 0, .string ⟨#[]⟩, .int .i64 0, .slice none 0 0, .slice none 0 0, .slice none 0 0, .slice none 0 0], .int .i64 0] 8 rfl (World.shaped_of_RefB (by kernel_rfl) (by kernel_rfl)) (by kernel_rfl) (by kernel_rfl) (by kernel_rfl) (Gm os _)) ?_
 intro W base args ds gs before hval0 hW _ hwt hL _
 have hval:∀(j:Nat) t v,Tryz.f3.params[j]? =some t->args[j]? =some v->Value.okWide Tryz.prog W .any base t v:=hval0
 have hW':=hW
 obtain⟨p,q,hA0,hV,rfl,hfz,hnd⟩:=hW
 have hA:DataW.TrodAll enc Tryz.prog W 0 (fun _=>true) true Tryz.f3.params.toList args.toList ds p:=hA0
 rw[Tryz.params3] at hA hval hwt
 obtain⟨v0,v1,d0,d1,p0,p1,rfl,rfl,rfl,h0,h1⟩:=trodAll_two hA
 obtain⟨rfl,rfl⟩:=trodVars_none hV
 obtain⟨y0,wf0,sz0,hr0⟩:=JS Tryz.underlying32 MC J7 (hval 0 _ v0 rfl rfl) h0 (Ou (j:=0) hwt rfl rfl)
 obtain⟨i1,hi1,rfl⟩:=LI Tryz.underlying3 (hval 1 _ v1 rfl rfl) h1
 refine((Fe (C4 y0) (t7 y0) (Hg sz0) (Hh sz0) i1).walkK [v0, .int .i64 i1] W (Of hL) (.cons (hr0.agg_cv (J8 y0)) (.cons (.int _ _) (.nil _)))).mono fun e W' ⟨he,hg⟩=>?_
 subst he
 exact⟨_,rfl,Ee hW' (fun _ _ _=>(trodAll_cons_mk (shut_bool Tryz.underlying4 _) trodAll_mk0))
  (fun sp hsp=>nW laid fit hA0 (fun x hx=>hg.sameAt (hW'.lt x (List.mem_append_left _ hx))) (fun x hx=>hsp x (List.mem_append_left _ hx)))
  (fun _ _=>rfl) rfl hg (ok_one (by kernel_rfl) rfl (okWide_bool_mk Tryz.underlying4 _))⟩
theorem over:Rows.thresholdProvesRow.holds Tryz.pinned (OpenSpec.ofChange Rows.thresholdProvesSpec):=
 OpenClaim.holds_of_wide 3 Tryz.f3 rfl rfl rfl rfl rfl rfl rfl ⟨rfl,rfl,rfl,rfl,rfl⟩ rfl rfl rfl rfl rfl named Tryz.func3 closed inst wrapped
  (fun os started H enc _=>lifted os started H enc)
end Go.Proofs.YtekmminpfhacpaaGreatDoor.thresholdProves
