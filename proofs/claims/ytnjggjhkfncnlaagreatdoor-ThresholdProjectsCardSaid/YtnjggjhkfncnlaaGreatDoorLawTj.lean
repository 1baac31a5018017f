import Derived.Test.YtnjggjhkfncnlaaGreatDoorPjG
import Derived.Test.YtnjggjhkfncnlaaGreatDoorY1
import Derived.Test.YtnjggjhkfncnlaaGreatDoorRT
import Derived.Test.YtnjggjhkfncnlaaGreatDoorTopC
set_option linter.unusedVariables false
set_option linter.unusedSimpArgs false
namespace Go.Proofs.YtnjggjhkfncnlaaGreatDoor.thresholdProjects
open Go.ChangeShapes Go.WideShapes Go.ChangeAt Go.RowKit
theorem fit : ∀ t ∈ Tryz.f3.params.toList, Tryz.prog.readableRec t = true ∧ t < Tryz.prog.types.size:=by
 have : (Tryz.f3.params.toList.all fun t=>Tryz.prog.readableRec t && decide (t < Tryz.prog.types.size)) = true:=by kernel_rfl
 simpa using this
set_option maxRecDepth 100000 in
theorem lifted (os : Os) (started : os.Started) (H : Type) (enc : TypeId × Value → H) :
  ReturnsInHanded {} Tryz.checked os 3 .any (fun w args=>(Rows.thresholdProjectsSpec.pre enc Tryz.prog Tryz.f3 [] false w args ∧ laidMetH Tryz.prog laidL w) ∧ sizedMet enc Tryz.prog Tryz.f3 (OpenSpec.ofChange Rows.thresholdProjectsSpec) false w args)
   (Rows.thresholdProjectsSpec.post enc Tryz.prog Tryz.f3 false true false false):=by
 refine returnsInHanded_of_change_and (C:=Tryz.checked) (X:=fun w _=>laidMetH Tryz.prog laidL w) (fun _ _ _ hh h=>h.of_heap hh) own started (by kernel_rfl) Tryz.func3
  (ChangeSpec.witness_shaped (enc:=enc) (C:=Tryz.checked) (os:=os) (X:=fun w _=>laidMetH Tryz.prog laidL w) false (World.doorLaid Tryz.prog 4000 os) #[.agg #[.string ⟨#[]⟩, .int .i64 0, .slice none 0 0, .slice none 0 0, .slice none 0 0, .int .i64 0, .slice none 0 0, .slice none 0 0, .slice none 0 0, .slice none 0 0, .string ⟨#[]⟩, .int .i64 0, .slice none 0 0, .slice none 0 0, .slice none 0 0, .slice none 0 0], .agg #[.int .i64 0, .int .i64 0, .int .i64 0], .agg #[.slice none 0 0, .slice none 0 0, .int .i64 0, .slice none 0 0, .slice none 0 0, .int .i64 0, .slice none 0 0]] 8 rfl (World.shaped_of_RefB (by kernel_rfl) (by kernel_rfl)) (by kernel_rfl) (by kernel_rfl) (by kernel_rfl) (door_met os _)) ?_
 intro W base args ds gs before hval0 hW _ hwt hL _
 have hval : ∀ (j : Nat) t v, Tryz.f3.params[j]? = some t → args[j]? = some v → Value.okWide Tryz.prog W .any base t v:=hval0
 have hW':=hW
 obtain ⟨p, q, hA0, hV, rfl, hfz, hnd⟩:=hW
 have hA : DataW.TrodAll enc Tryz.prog W 0 (fun _=>true) true Tryz.f3.params.toList args.toList ds p:=hA0
 rw [Tryz.params3] at hA hval hwt
 obtain ⟨v0, v1, v2, d0, d1, d2, p0, p1, p2, rfl, rfl, rfl, h0, h1, h2⟩:=trodAll_three hA
 obtain ⟨rfl, rfl⟩:=trodVars_none hV
 obtain ⟨y0, wf0, sz0, hr0⟩:=rd_aggZ Tryz.underlying32 shPlay bytPlay (hval 0 _ v0 rfl rfl) h0 (weigh (j:=0) hwt rfl rfl)
 obtain ⟨y1, wf1, hr1⟩:=rd_agg Tryz.underlying34 shSiz (hval 1 _ v1 rfl rfl) h1
 obtain ⟨y2, wf2, sz2, hr2⟩:=rd_aggZ Tryz.underlying39 shRun bytRun (hval 2 _ v2 rfl rfl) h2 (weigh (j:=2) hwt rfl rfl)
 refine ((lawProjects (playP y0) (playQ y0) (okP_play sz0) (okQ_play sz0) (sizOf y1) (runOf y2) (run_z sz2).1 (run_z sz2).2).walkK [v0, v1, v2] W (gl_of hL) (.cons (hr0.agg_cv (cv_play y0)) (.cons (hr1.agg_cv (cv_siz y1)) (.cons (hr2.agg_cv (cv_run y2)) (.nil _))))).mono fun e W' ⟨he, hg⟩=>?_
 subst he
 exact ⟨_, rfl, post_kept hW' (fun _ _ _=>(trodAll_cons_mk (shut_bool Tryz.underlying4 _) trodAll_mk0))
  (fun sp hsp=>TrodAll_stays laid fit hA0 (fun x hx=>hg.sameAt (hW'.lt x (List.mem_append_left _ hx))) (fun x hx=>hsp x (List.mem_append_left _ hx)))
  (fun _ _=>rfl) rfl hg (ok_one (by kernel_rfl) rfl (okWide_bool_mk Tryz.underlying4 _))⟩
theorem and_t {a b : Bool} (h : a = true) (k : b = true) : (a && b) = true:=by rw [h, k]; rfl
set_option maxHeartbeats 40000000 in
theorem closed : joinedFacts Tryz.pinned.checked.prog 3 Tryz.f3 Rows.thresholdProjectsSpec Rows.thresholdProjectsRow = true:=by
 unfold joinedFacts
 repeat' (with_reducible refine and_t ?_ ?_)
 all_goals as_aux_lemma=>kernel_rfl
theorem named : Tryz.pinned.checked.prog.funcNamed Rows.thresholdProjectsRow.func = some 3:=by kernel_rfl
theorem inst : Tryz.f3.isInstance Tryz.pinned.checked.prog Rows.thresholdProjectsRow.origin Rows.thresholdProjectsRow.targs:=of_decide_eq_true (by kernel_rfl)
theorem wrapped : Tryz.f3.isWrapper Tryz.pinned.checked.prog Rows.thresholdProjectsRow.wrapper Rows.thresholdProjectsRow.mainSum:=by
 unfold Func.isWrapper; first | (rw [if_pos (by decide +kernel)]; kernel_rfl) | (rw [if_neg (by decide +kernel)]; exact ⟨rfl, rfl⟩)
theorem over : Rows.thresholdProjectsRow.holds Tryz.pinned (OpenSpec.ofChange Rows.thresholdProjectsSpec) :=
 OpenClaim.holds_of_wide 3 Tryz.f3 rfl rfl rfl rfl rfl rfl rfl ⟨rfl, rfl, rfl, rfl, rfl⟩ rfl rfl rfl rfl rfl named Tryz.func3 closed inst wrapped
  (fun os started H enc _=>lifted os started H enc)
theorem noStand : ∀ t ∈ Tryz.f3.params.toList, Tryz.prog.wantsStandIn t = false:=by
 have : (Tryz.f3.params.toList.all fun t=>!(Tryz.prog.wantsStandIn t)) = true:=by kernel_rfl
 simpa using this
theorem card : Claim7.holds Tryz.pinned (.plain (OpenSpec.ofChange Rows.thresholdProjectsSpec)) Rows.thresholdProjectsCard :=
 Claim7.holds_tied_plain_at .later [] [.listed, .data] true (true, "de5afa911a6f80d71e7ab184e544ba8961eeaecfd0462e0737cb4278e7b2e54b") false
  over (fun _ h=>by cases h) (by kernel_rfl) (fun _ h=>by cases h) thresholdProjects_row_tie rfl ⟨rfl, rfl⟩ (by kernel_rfl) rfl
  (fun f fn hf hfn=>by
   obtain rfl : f = 3:=Option.some.inj ((show Tryz.prog.funcNamed Rows.thresholdProjectsRow.func = some 3 by kernel_rfl).symm.trans hf) |>.symm
   obtain rfl : fn = Tryz.f3:=(Option.some.inj (Tryz.func3.symm.trans hfn)).symm
   exact ⟨by kernel_rfl, fun j t ht=>noStand t (by
    have : Tryz.f3.params.toList[j]? = some t:=by simpa using ht
    exact List.mem_of_getElem? this)⟩)
  (by kernel_rfl)
end Go.Proofs.YtnjggjhkfncnlaaGreatDoor.thresholdProjects
namespace Go.Proofs.YtnjggjhkfncnlaaGreatDoor
theorem thresholdProjects_holds : Rows.ThresholdProjectsCardSaid:=thresholdProjects.card
end Go.Proofs.YtnjggjhkfncnlaaGreatDoor
