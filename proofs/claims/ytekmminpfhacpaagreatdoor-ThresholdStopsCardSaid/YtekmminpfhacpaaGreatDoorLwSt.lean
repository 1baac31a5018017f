/-
  The law ThresholdStops: for every input the call returns true and the arguments read as they did; the tables at the package level are as the program's text lays them.
-/
import Derived.Test.YtekmminpfhacpaaGreatDoorS5
import Derived.Test.YtekmminpfhacpaaGreatDoorRT
import Derived.Test.YtekmminpfhacpaaGreatDoorTopC
set_option linter.unusedVariables false
set_option linter.unusedSimpArgs false
namespace Go.Proofs.YtekmminpfhacpaaGreatDoor.thresholdStops
open Go.ChangeShapes Go.WideShapes Go.ChangeAt Go.RowKit
theorem fit:∀t∈Tryz.f4.params.toList,Tryz.prog.readableRec t=true/\t<Tryz.prog.types.size:=by
 have:(Tryz.f4.params.toList.all fun t=>Tryz.prog.readableRec t&&decide (t<Tryz.prog.types.size))=true:=by kernel_rfl
 simpa using this
set_option maxRecDepth 100000 in
theorem lifted (os:Os) (started:os.Started) (H:Type) (enc:TypeId×Value->H):
  ReturnsInHanded {} Tryz.checked os 4 .any (fun w args=>(Rows.thresholdStopsSpec.pre enc Tryz.prog Tryz.f4 [] false w args/\laidMetH Tryz.prog tA w)/\sizedMet enc Tryz.prog Tryz.f4 (OpenSpec.ofChange Rows.thresholdStopsSpec) false w args)
   (Rows.thresholdStopsSpec.post enc Tryz.prog Tryz.f4 false true false false):=by
 refine returnsInHanded_of_change_and (C:=Tryz.checked) (X:=fun w _=>laidMetH Tryz.prog tA w) (fun _ _ _ hh h=>h.of_heap hh) own started (by kernel_rfl) Tryz.func4
  (ChangeSpec.witness_shaped (enc:=enc) (C:=Tryz.checked) (os:=os) (X:=fun w _=>laidMetH Tryz.prog tA w) false (World.doorLaid Tryz.prog 4000 os) #[.agg #[.string ⟨#[]⟩, .int .i64 0, .slice none 0 0, .slice none 0 0, .slice none 0 0, .int .i64 0, .slice none 0 0, .slice none 0 0, .slice none 0 0, .slice none 0 0, .string ⟨#[]⟩, .int .i64 0, .slice none 0 0, .slice none 0 0, .slice none 0 0, .slice none 0 0], .agg #[.int .i64 0, .int .i64 0, .int .i64 0], .agg #[.slice none 0 0, .slice none 0 0, .int .i64 0, .slice none 0 0, .slice none 0 0, .int .i64 0, .slice none 0 0]] 8 rfl (World.shaped_of_RefB (by kernel_rfl) (by kernel_rfl)) (by kernel_rfl) (by kernel_rfl) (by kernel_rfl) (z4 os _)) ?_
 intro W base args ds gs before hval0 hW _ hwt hL _
 have hval:∀(j:Nat) t v,Tryz.f4.params[j]? =some t->args[j]? =some v->Value.okWide Tryz.prog W .any base t v:=hval0
 have hW':=hW
 obtain⟨p,q,hA0,hV,rfl,hfz,hnd⟩:=hW
 have hA:DataW.TrodAll enc Tryz.prog W 0 (fun _=>true) true Tryz.f4.params.toList args.toList ds p:=hA0
 rw[Tryz.params4] at hA hval hwt
 obtain⟨v0,v1,v2,d0,d1,d2,p0,p1,p2,rfl,rfl,rfl,h0,h1,h2⟩:=trodAll_three hA
 obtain⟨rfl,rfl⟩:=trodVars_none hV
 obtain⟨y0,wf0,sz0,hr0⟩:=wF Tryz.underlying32 FN Dm (hval 0 _ v0 rfl rfl) h0 (El (j:=0) hwt rfl rfl)
 obtain⟨y1,wf1,hr1⟩:=EQ Tryz.underlying59 GU (hval 1 _ v1 rfl rfl) h1
 obtain⟨y2,wf2,sz2,hr2⟩:=wF Tryz.underlying64 HA Gg (hval 2 _ v2 rfl rfl) h2 (El (j:=2) hwt rfl rfl)
 refine((BR (wO y0) (oZ y0) (Ba sz0) (Bb sz0) (Ed y1) (ul y2) (Ew sz2).1 (Ew sz2).2).walkK [v0,v1,v2] W (GW hL) (.cons (hr0.agg_cv (Dn y0)) (.cons (hr1.agg_cv (EZ y1)) (.cons (hr2.agg_cv (Gf y2)) (.nil _))))).mono fun e W' ⟨he,hg⟩=>?_
 subst he
 exact⟨_,rfl,xD hW' (fun _ _ _=>(trodAll_cons_mk (shut_bool Tryz.underlying4 _) trodAll_mk0))
  (fun sp hsp=>kj laid fit hA0 (fun x hx=>hg.sameAt (hW'.lt x (List.mem_append_left _ hx))) (fun x hx=>hsp x (List.mem_append_left _ hx)))
  (fun _ _=>rfl) rfl hg (ok_one (by kernel_rfl) rfl (okWide_bool_mk Tryz.underlying4 _))⟩
theorem and_t {a b:Bool} (h:a=true) (k:b=true):(a&&b)=true:=by rw[h,k];rfl
set_option maxHeartbeats 40000000 in
theorem closed:joinedFacts Tryz.pinned.checked.prog 4 Tryz.f4 Rows.thresholdStopsSpec Rows.thresholdStopsRow=true:=by
 unfold joinedFacts
 repeat' (with_reducible refine and_t ?_ ?_)
 all_goals as_aux_lemma=>kernel_rfl
theorem named:Tryz.pinned.checked.prog.funcNamed Rows.thresholdStopsRow.func=some 4:=by kernel_rfl
theorem inst:Tryz.f4.isInstance Tryz.pinned.checked.prog Rows.thresholdStopsRow.origin Rows.thresholdStopsRow.targs:=of_decide_eq_true (by kernel_rfl)
theorem wrapped:Tryz.f4.isWrapper Tryz.pinned.checked.prog Rows.thresholdStopsRow.wrapper Rows.thresholdStopsRow.mainSum:=by
 unfold Func.isWrapper;first|(rw[if_pos (by decide+kernel)];kernel_rfl)|(rw[if_neg (by decide+kernel)];exact⟨rfl,rfl⟩)
theorem over:Rows.thresholdStopsRow.holds Tryz.pinned (OpenSpec.ofChange Rows.thresholdStopsSpec):=
 OpenClaim.holds_of_wide 4 Tryz.f4 rfl rfl rfl rfl rfl rfl rfl ⟨rfl,rfl,rfl,rfl,rfl⟩ rfl rfl rfl rfl rfl named Tryz.func4 closed inst wrapped
  (fun os started H enc _=>lifted os started H enc)
end Go.Proofs.YtekmminpfhacpaaGreatDoor.thresholdStops
