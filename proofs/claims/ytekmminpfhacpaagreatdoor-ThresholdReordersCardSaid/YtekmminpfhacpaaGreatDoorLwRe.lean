/-
  The law ThresholdReorders: for every input the call returns true and the arguments read as they did; the tables at the package level are as the program's text lays them.
-/
import Derived.Test.YtekmminpfhacpaaGreatDoorS4
import Derived.Test.YtekmminpfhacpaaGreatDoorY1
import Derived.Test.YtekmminpfhacpaaGreatDoorRT
import Derived.Test.YtekmminpfhacpaaGreatDoorTopC
set_option linter.unusedVariables false
set_option linter.unusedSimpArgs false
namespace Go.Proofs.YtekmminpfhacpaaGreatDoor.thresholdReorders
open Go.ChangeShapes Go.WideShapes Go.ChangeAt Go.RowKit
theorem fit:∀t∈Tryz.f8.params.toList,Tryz.prog.readableRec t=true/\t<Tryz.prog.types.size:=by
 have:(Tryz.f8.params.toList.all fun t=>Tryz.prog.readableRec t&&decide (t<Tryz.prog.types.size))=true:=by kernel_rfl
 simpa using this
set_option maxRecDepth 100000 in
theorem lifted (os:Os) (started:os.Started) (H:Type) (enc:TypeId×Value->H):
  ReturnsInHanded {} Tryz.checked os 8 .any (fun w args=>(Rows.thresholdReordersSpec.pre enc Tryz.prog Tryz.f8 [] false w args/\laidMetH Tryz.prog lq w)/\sizedMet enc Tryz.prog Tryz.f8 (OpenSpec.ofChange Rows.thresholdReordersSpec) false w args)
   (Rows.thresholdReordersSpec.post enc Tryz.prog Tryz.f8 false true false false):=by
 refine returnsInHanded_of_change_and (C:=Tryz.checked) (X:=fun w _=>laidMetH Tryz.prog lq w) (fun _ _ _ hh h=>h.of_heap hh) own started (by kernel_rfl) Tryz.func8
  (ChangeSpec.witness_shaped (enc:=enc) (C:=Tryz.checked) (os:=os) (X:=fun w _=>laidMetH Tryz.prog lq w) false (World.doorLaid Tryz.prog 4000 os) #[.agg #[.string ⟨#[]⟩, .int .i64 0, .slice none 0 0, .slice none 0 0, .slice none 0 0, .int .i64 0, .slice none 0 0, .slice none 0 0, .slice none 0 0, .slice none 0 0, .string ⟨#[]⟩, .int .i64 0, .slice none 0 0, .slice none 0 0, .slice none 0 0, .slice none 0 0], .agg #[.int .i64 0, .int .i64 0, .int .i64 0], .agg #[.slice none 0 0, .slice none 0 0, .int .i64 0, .slice none 0 0, .slice none 0 0, .int .i64 0, .slice none 0 0]] 8 rfl (World.shaped_of_RefB (by kernel_rfl) (by kernel_rfl)) (by kernel_rfl) (by kernel_rfl) (by kernel_rfl) (rk os _)) ?_
 intro W base args ds gs before hval0 hW _ hwt hL _
 have hval:∀(j:Nat) t v,Tryz.f8.params[j]? =some t->args[j]? =some v->Value.okWide Tryz.prog W .any base t v:=hval0
 have hW':=hW
 obtain⟨p,q,hA0,hV,rfl,hfz,hnd⟩:=hW
 have hA:DataW.TrodAll enc Tryz.prog W 0 (fun _=>true) true Tryz.f8.params.toList args.toList ds p:=hA0
 rw[Tryz.params8] at hA hval hwt
 obtain⟨v0,v1,v2,d0,d1,d2,p0,p1,p2,rfl,rfl,rfl,h0,h1,h2⟩:=trodAll_three hA
 obtain⟨rfl,rfl⟩:=trodVars_none hV
 obtain⟨y0,wf0,sz0,hr0⟩:=l6 Tryz.underlying32 zk u3 (hval 0 _ v0 rfl rfl) h0 (rC (j:=0) hwt rfl rfl)
 obtain⟨y1,wf1,hr1⟩:=D5 Tryz.underlying59 JJ (hval 1 _ v1 rfl rfl) h1
 obtain⟨y2,wf2,sz2,hr2⟩:=l6 Tryz.underlying64 J5 G2 (hval 2 _ v2 rfl rfl) h2 (rC (j:=2) hwt rfl rfl)
 refine((xX (tE y0) (nR y0) (rK sz0) (rL sz0) (Et y1) (tR y2) (Bz sz2).1 (Bz sz2).2).walkK [v0,v1,v2] W (Ev hL) (.cons (hr0.agg_cv (u4 y0)) (.cons (hr1.agg_cv (Eu y1)) (.cons (hr2.agg_cv (G1 y2)) (.nil _))))).mono fun e W' ⟨he,hg⟩=>?_
 subst he
 exact⟨_,rfl,oI hW' (fun _ _ _=>(trodAll_cons_mk (shut_bool Tryz.underlying4 _) trodAll_mk0))
  (fun sp hsp=>gx laid fit hA0 (fun x hx=>hg.sameAt (hW'.lt x (List.mem_append_left _ hx))) (fun x hx=>hsp x (List.mem_append_left _ hx)))
  (fun _ _=>rfl) rfl hg (ok_one (by kernel_rfl) rfl (okWide_bool_mk Tryz.underlying4 _))⟩
theorem and_t {a b:Bool} (h:a=true) (k:b=true):(a&&b)=true:=by rw[h,k];rfl
set_option maxHeartbeats 40000000 in
theorem closed:joinedFacts Tryz.pinned.checked.prog 8 Tryz.f8 Rows.thresholdReordersSpec Rows.thresholdReordersRow=true:=by
 unfold joinedFacts
 repeat' (with_reducible refine and_t ?_ ?_)
 all_goals as_aux_lemma=>kernel_rfl
theorem named:Tryz.pinned.checked.prog.funcNamed Rows.thresholdReordersRow.func=some 8:=by kernel_rfl
theorem inst:Tryz.f8.isInstance Tryz.pinned.checked.prog Rows.thresholdReordersRow.origin Rows.thresholdReordersRow.targs:=of_decide_eq_true (by kernel_rfl)
theorem wrapped:Tryz.f8.isWrapper Tryz.pinned.checked.prog Rows.thresholdReordersRow.wrapper Rows.thresholdReordersRow.mainSum:=by
 unfold Func.isWrapper;first|(rw[if_pos (by decide+kernel)];kernel_rfl)|(rw[if_neg (by decide+kernel)];exact⟨rfl,rfl⟩)
theorem over:Rows.thresholdReordersRow.holds Tryz.pinned (OpenSpec.ofChange Rows.thresholdReordersSpec):=
 OpenClaim.holds_of_wide 8 Tryz.f8 rfl rfl rfl rfl rfl rfl rfl ⟨rfl,rfl,rfl,rfl,rfl⟩ rfl rfl rfl rfl rfl named Tryz.func8 closed inst wrapped
  (fun os started H enc _=>lifted os started H enc)
end Go.Proofs.YtekmminpfhacpaaGreatDoor.thresholdReorders
