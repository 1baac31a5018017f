/-
  The law UnfoldNoLasso: for every input the call returns true and the arguments read as they did; the tables at the package level are as the program's text lays them.
-/
import Derived.Test.YtblcpnmnibcbbaaGreatDoorLaR
set_option linter.unusedVariables false
set_option linter.unusedSimpArgs false
namespace Go.Proofs.YtblcpnmnibcbbaaGreatDoor.unfoldNoLasso
open Go.ChangeShapes Go.WideShapes Go.ChangeAt Go.RowKit
theorem fit:∀t∈Tryz.f5.params.toList,Tryz.prog.readableRec t=true/\t<Tryz.prog.types.size:=by
 have:(Tryz.f5.params.toList.all fun t=>Tryz.prog.readableRec t&&decide (t<Tryz.prog.types.size))=true:=by kernel_rfl
 simpa using this
set_option maxRecDepth 100000 in
theorem lifted (os:Os) (started:os.Started) (H:Type) (enc:TypeId×Value->H):
  ReturnsInHanded {} Tryz.checked os 5 .any (fun w args=>(Rows.unfoldNoLassoSpec.pre enc Tryz.prog Tryz.f5 [] false w args/\laidMetH Tryz.prog Ni w)/\sizedMet enc Tryz.prog Tryz.f5 (OpenSpec.ofChange Rows.unfoldNoLassoSpec) false w args)
   (Rows.unfoldNoLassoSpec.post enc Tryz.prog Tryz.f5 false true false false):=by
 refine returnsInHanded_of_change_and (C:=Tryz.checked) (X:=fun w _=>laidMetH Tryz.prog Ni w) (fun _ _ _ hh h=>h.of_heap hh) own started (by kernel_rfl) Tryz.func5
  (ChangeSpec.witness_shaped (enc:=enc) (C:=Tryz.checked) (os:=os) (X:=fun w _=>laidMetH Tryz.prog Ni w) false (World.doorLaid Tryz.prog 4000 os) #[.agg #[.string ⟨#[]⟩, .int .i64 0, .slice none 0 0, .slice none 0 0, .slice none 0 0, .int .i64 0, .slice none 0 0, .slice none 0 0, .slice none 0 0, .slice none 0 0, .string ⟨#[]⟩, .int .i64 0, .slice none 0 0, .slice none 0 0, .slice none 0 0, .slice none 0 0, .int .i64 0, .int .i64 0, .int .i64 0], .agg #[.slice none 0 0, .slice none 0 0, .int .i64 0, .slice none 0 0, .slice none 0 0, .int .i64 0, .slice none 0 0, .slice none 0 0]] 8 rfl (World.shaped_of_RefB (by kernel_rfl) (by kernel_rfl)) (by kernel_rfl) (by kernel_rfl) (by kernel_rfl) (Nx os _)) ?_
 intro W base args ds gs before hval0 hW _ _ hL _
 have hval:∀(j:Nat) t v,Tryz.f5.params[j]? =some t->args[j]? =some v->Value.okWide Tryz.prog W .any base t v:=hval0
 have hW':=hW
 obtain⟨p,q,hA0,hV,rfl,hfz,hnd⟩:=hW
 have hA:DataW.TrodAll enc Tryz.prog W 0 (fun _=>true) true Tryz.f5.params.toList args.toList ds p:=hA0
 rw[Tryz.params5] at hA hval
 obtain⟨v0,v1,d0,d1,p0,p1,rfl,rfl,rfl,h0,h1⟩:=trodAll_two hA
 obtain⟨rfl,rfl⟩:=trodVars_none hV
 obtain⟨y0,wf0,hr0⟩:=Nu Tryz.underlying34 NN (hval 0 _ v0 rfl rfl) h0
 obtain⟨y1,wf1,hr1⟩:=Nu Tryz.underlying41 JC (hval 1 _ v1 rfl rfl) h1
 refine((L' (ND y0) (NE y0) (NF y0) (Iv y1)).walkKTop [v0,v1] W (NP hL) (.cons (hr0.agg_cvTop (NC y0)) (.cons (hr1.agg_cvTop (Jd y1)) (.nil _)))).mono fun e W' ⟨he,hg⟩=>?_
 subst he
 exact⟨_,rfl,Nv hW' (fun _ _ _=>(trodAll_cons_mk (shut_bool Tryz.underlying4 _) trodAll_mk0))
  (fun sp hsp=>Nh NQ fit hA0 (fun x hx=>hg.sameAtTop (hW'.lt x (List.mem_append_left _ hx))) (fun x hx=>hsp x (List.mem_append_left _ hx)))
  (fun _ _=>rfl) rfl hg (ok_one (by kernel_rfl) rfl (okWide_bool_mk Tryz.underlying4 _))⟩
theorem and_t {a b:Bool} (h:a=true) (k:b=true):(a&&b)=true:=by rw[h,k];rfl
set_option maxHeartbeats 40000000 in
theorem closed:joinedFacts Tryz.pinned.checked.prog 5 Tryz.f5 Rows.unfoldNoLassoSpec Rows.unfoldNoLassoRow=true:=by
 unfold joinedFacts
 repeat' (with_reducible refine and_t ?_ ?_)
 all_goals as_aux_lemma=>kernel_rfl
theorem named:Tryz.pinned.checked.prog.funcNamed Rows.unfoldNoLassoRow.func=some 5:=by kernel_rfl
theorem inst:Tryz.f5.isInstance Tryz.pinned.checked.prog Rows.unfoldNoLassoRow.origin Rows.unfoldNoLassoRow.targs:=of_decide_eq_true (by kernel_rfl)
theorem wrapped:Tryz.f5.isWrapper Tryz.pinned.checked.prog Rows.unfoldNoLassoRow.wrapper Rows.unfoldNoLassoRow.mainSum:=by
 unfold Func.isWrapper;first|(rw[if_pos (by decide+kernel)];kernel_rfl)|(rw[if_neg (by decide+kernel)];exact⟨rfl,rfl⟩)
theorem over:Rows.unfoldNoLassoRow.holds Tryz.pinned (OpenSpec.ofChange Rows.unfoldNoLassoSpec):=
 OpenClaim.holds_of_wide 5 Tryz.f5 rfl rfl rfl rfl rfl rfl rfl ⟨rfl,rfl,rfl,rfl,rfl⟩ rfl rfl rfl rfl rfl named Tryz.func5 closed inst wrapped
  (fun os started H enc _=>lifted os started H enc)
end Go.Proofs.YtblcpnmnibcbbaaGreatDoor.unfoldNoLasso
