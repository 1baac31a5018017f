/-
  The law UnfoldSmallestLasso: for every input the call returns true and the arguments read as they did; the tables at the package level are as the program's text lays them.
-/
import Derived.Test.YtokjgegkhlkopaaGreatDoorLbW
import Derived.Test.YtokjgegkhlkopaaGreatDoorTopC
import Derived.Test.YtokjgegkhlkopaaGreatDoorRdW
set_option linter.unusedVariables false
set_option linter.unusedSimpArgs false
namespace Go.Proofs.YtokjgegkhlkopaaGreatDoor.unfoldSmallestLasso
open Go.ChangeShapes Go.WideShapes Go.ChangeAt Go.RowKit
theorem fit:∀t∈Tryz.f4.params.toList,Tryz.prog.readableRec t=true/\t<Tryz.prog.types.size:=by
 have:(Tryz.f4.params.toList.all fun t=>Tryz.prog.readableRec t&&decide (t<Tryz.prog.types.size))=true:=by kernel_rfl
 simpa using this
set_option maxRecDepth 100000 in
theorem lifted (os:Os) (started:os.Started) (H:Type) (enc:TypeId×Value->H):
  ReturnsInHanded {} Tryz.checked os 4 .any (fun w args=>(Rows.unfoldSmallestLassoSpec.pre enc Tryz.prog Tryz.f4 [] false w args/\laidMetH Tryz.prog pz w)/\sizedMet enc Tryz.prog Tryz.f4 (OpenSpec.ofChange Rows.unfoldSmallestLassoSpec) false w args)
   (Rows.unfoldSmallestLassoSpec.post enc Tryz.prog Tryz.f4 false true false false):=by
 refine returnsInHanded_of_change_and (C:=Tryz.checked) (X:=fun w _=>laidMetH Tryz.prog pz w) (fun _ _ _ hh h=>h.of_heap hh) own started (by kernel_rfl) Tryz.func4
  (ChangeSpec.witness_shaped (enc:=enc) (C:=Tryz.checked) (os:=os) (X:=fun w _=>laidMetH Tryz.prog pz w) false (World.doorLaid Tryz.prog 4000 os) #[.agg #[.string ⟨#[]⟩, .int .i64 0, .slice none 0 0, .slice none 0 0, .slice none 0 0, .int .i64 0, .slice none 0 0, .slice none 0 0, .slice none 0 0, .slice none 0 0], .agg #[.string ⟨#[]⟩, .int .i64 0, .slice none 0 0, .slice none 0 0, .slice none 0 0, .slice none 0 0], .int .i64 0] 8 rfl (World.shaped_of_RefB (by kernel_rfl) (by kernel_rfl)) (by kernel_rfl) (by kernel_rfl) (by kernel_rfl) (xz os _)) ?_
 intro W base args ds gs before hval0 hW _ _ hL _
 have hval:∀(j:Nat) t v,Tryz.f4.params[j]? =some t->args[j]? =some v->Value.okWide Tryz.prog W .any base t v:=hval0
 have hW':=hW
 obtain⟨p,q,hA0,hV,rfl,hfz,hnd⟩:=hW
 have hA:DataW.TrodAll enc Tryz.prog W 0 (fun _=>true) true Tryz.f4.params.toList args.toList ds p:=hA0
 rw[Tryz.params4] at hA hval
 obtain⟨v0,v1,v2,d0,d1,d2,p0,p1,p2,rfl,rfl,rfl,h0,h1,h2⟩:=trodAll_three hA
 obtain⟨rfl,rfl⟩:=trodVars_none hV
 obtain⟨y0,wf0,hr0⟩:=zp Tryz.underlying27 Mp (hval 0 _ v0 rfl rfl) h0
 obtain⟨y1,wf1,hr1⟩:=zp Tryz.underlying30 Kk (hval 1 _ v1 rfl rfl) h1
 obtain⟨i2,hi2,rfl⟩:=J2 Tryz.underlying3 (hval 2 _ v2 rfl rfl) h2
 refine((pm (I4 y0) (I' y1) i2).walkK [v0,v1, .int .i64 i2] W (I5 hL) (.cons (hr0.agg_cv (Kd y0)) (.cons (hr1.agg_cv (HA y1)) (.cons (.int _ _) (.nil _))))).mono fun e W' ⟨he,hg⟩=>?_
 subst he
 exact⟨_,rfl,tY hW' (fun _ _ _=>(trodAll_cons_mk (shut_bool Tryz.underlying4 _) trodAll_mk0))
  (fun sp hsp=>jz laid fit hA0 (fun x hx=>hg.sameAt (hW'.lt x (List.mem_append_left _ hx))) (fun x hx=>hsp x (List.mem_append_left _ hx)))
  (fun _ _=>rfl) rfl hg (ok_one (by kernel_rfl) rfl (okWide_bool_mk Tryz.underlying4 _))⟩
theorem and_t {a b:Bool} (h:a=true) (k:b=true):(a&&b)=true:=by rw[h,k];rfl
set_option maxHeartbeats 40000000 in
theorem closed:joinedFacts Tryz.pinned.checked.prog 4 Tryz.f4 Rows.unfoldSmallestLassoSpec Rows.unfoldSmallestLassoRow=true:=by
 unfold joinedFacts
 repeat' (with_reducible refine and_t ?_ ?_)
 all_goals as_aux_lemma=>kernel_rfl
theorem named:Tryz.pinned.checked.prog.funcNamed Rows.unfoldSmallestLassoRow.func=some 4:=by kernel_rfl
theorem inst:Tryz.f4.isInstance Tryz.pinned.checked.prog Rows.unfoldSmallestLassoRow.origin Rows.unfoldSmallestLassoRow.targs:=of_decide_eq_true (by kernel_rfl)
theorem wrapped:Tryz.f4.isWrapper Tryz.pinned.checked.prog Rows.unfoldSmallestLassoRow.wrapper Rows.unfoldSmallestLassoRow.mainSum:=by
 unfold Func.isWrapper;first|(rw[if_pos (by decide+kernel)];kernel_rfl)|(rw[if_neg (by decide+kernel)];exact⟨rfl,rfl⟩)
theorem over:Rows.unfoldSmallestLassoRow.holds Tryz.pinned (OpenSpec.ofChange Rows.unfoldSmallestLassoSpec):=
 OpenClaim.holds_of_wide 4 Tryz.f4 rfl rfl rfl rfl rfl rfl rfl ⟨rfl,rfl,rfl,rfl,rfl⟩ rfl rfl rfl rfl rfl named Tryz.func4 closed inst wrapped
  (fun os started H enc _=>lifted os started H enc)
end Go.Proofs.YtokjgegkhlkopaaGreatDoor.unfoldSmallestLasso
