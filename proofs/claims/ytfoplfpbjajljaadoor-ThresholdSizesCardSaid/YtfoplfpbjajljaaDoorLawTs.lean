import Derived.Test.YtfoplfpbjajljaaDoorRdL
import Derived.Test.YtfoplfpbjajljaaDoorTopC
set_option linter.unusedVariables false
set_option linter.unusedSimpArgs false
namespace Go.Proofs.YtfoplfpbjajljaaDoor.thresholdSizes
open Go.ChangeShapes Go.WideShapes Go.ChangeAt Go.RowKit
theorem fit : ∀ t ∈ Tryd.f4.params.toList, Tryd.prog.readableRec t = true ∧ t < Tryd.prog.types.size := by
 have : (Tryd.f4.params.toList.all fun t => Tryd.prog.readableRec t && decide (t < Tryd.prog.types.size)) = true := by kernel_rfl
 simpa using this
set_option maxRecDepth 100000 in
theorem lifted (os : Os) (started : os.Started) (H : Type) (enc : TypeId × Value → H) :
  ReturnsInHanded {} Tryd.checked os 4 .any (fun w args => (Rows.thresholdSizesSpec.pre enc Tryd.prog Tryd.f4 [] false w args ∧ laidMetH Tryd.prog laidL w) ∧ sizedMet enc Tryd.prog Tryd.f4 (OpenSpec.ofChange Rows.thresholdSizesSpec) false w args)
   (Rows.thresholdSizesSpec.post enc Tryd.prog Tryd.f4 false true false false) := by
 refine returnsInHanded_of_change_and (C := Tryd.checked) (X := fun w _ => laidMetH Tryd.prog laidL w) (fun _ _ _ hh h => h.of_heap hh) own started (by kernel_rfl) Tryd.func4
  (ChangeSpec.witness_shaped (enc := enc) (C := Tryd.checked) (os := os) (X := fun w _ => laidMetH Tryd.prog laidL w) false (World.doorLaid Tryd.prog 4000 os) #[.agg #[.string ⟨#[]⟩, .int .i64 0, .slice none 0 0, .slice none 0 0, .slice none 0 0, .int .i64 0, .slice none 0 0, .slice none 0 0, .slice none 0 0, .slice none 0 0, .string ⟨#[]⟩, .int .i64 0, .slice none 0 0, .slice none 0 0, .slice none 0 0, .slice none 0 0], .agg #[.slice none 0 0, .int .i64 0], .agg #[.int .i64 0, .int .i64 0, .int .i64 0, .slice none 0 0]] 8 rfl (World.shaped_of_RefB (by kernel_rfl) (by kernel_rfl)) (by kernel_rfl) (by kernel_rfl) (by kernel_rfl) (door_met os _)) ?_
 intro W base args ds gs before hval0 hW _ hwt hL _
 have hval : ∀ (j : Nat) t v, Tryd.f4.params[j]? = some t → args[j]? = some v → Value.okWide Tryd.prog W .any base t v := hval0
 have hW' := hW
 obtain ⟨p, q, hA0, hV, rfl, hfz, hnd⟩ := hW
 have hA : DataW.TrodAll enc Tryd.prog W 0 (fun _ => true) true Tryd.f4.params.toList args.toList ds p := hA0
 rw [Tryd.params4] at hA hval hwt
 obtain ⟨v0, v1, v2, d0, d1, d2, p0, p1, p2, rfl, rfl, rfl, h0, h1, h2⟩ := trodAll_three hA
 obtain ⟨rfl, rfl⟩ := trodVars_none hV
 obtain ⟨y0, wf0, sz0, hr0⟩ := rd_aggZ Tryd.underlying32 shPlay bytPlay (hval 0 _ v0 rfl rfl) h0 (weigh (j := 0) hwt rfl rfl)
 obtain ⟨y1, wf1, sz1, hr1⟩ := rd_aggZ Tryd.underlying34 shPart bytPart (hval 1 _ v1 rfl rfl) h1 (weigh (j := 1) hwt rfl rfl)
 obtain ⟨y2, wf2, sz2, hr2⟩ := rd_aggZ Tryd.underlying53 shSpot bytSpot (hval 2 _ v2 rfl rfl) h2 (weigh (j := 2) hwt rfl rfl)
 refine ((lawSizes (playP y0) (playQ y0) (okP_play sz0) (okQ_play sz0) (partL y1) (part_z sz1) (partN y1) (spotZ y2) (spotX y2) (spot_z sz2)).walkK [v0, v1, v2] W (gl_of hL) (.cons (hr0.agg_cv (cv_play y0)) (.cons (hr1.agg_cv (cv_part y1)) (.cons (hr2.agg_cv (cv_spot y2)) (.nil _))))).mono fun e W' ⟨he, hg⟩ => ?_
 subst he
 exact ⟨_, rfl, post_kept hW' (fun _ _ _ => (trodAll_cons_mk (shut_bool Tryd.underlying4 _) trodAll_mk0))
  (fun sp hsp => TrodAll_stays laid fit hA0 (fun x hx => hg.sameAt (hW'.lt x (List.mem_append_left _ hx))) (fun x hx => hsp x (List.mem_append_left _ hx)))
  (fun _ _ => rfl) rfl hg (ok_one (by kernel_rfl) rfl (okWide_bool_mk Tryd.underlying4 _))⟩
theorem and_t {a b : Bool} (h : a = true) (k : b = true) : (a && b) = true := by rw [h, k]; rfl
set_option maxHeartbeats 40000000 in
theorem closed : joinedFacts Tryd.pinned.checked.prog 4 Tryd.f4 Rows.thresholdSizesSpec Rows.thresholdSizesRow = true := by
 unfold joinedFacts
 repeat' (with_reducible refine and_t ?_ ?_)
 all_goals as_aux_lemma => kernel_rfl
theorem named : Tryd.pinned.checked.prog.funcNamed Rows.thresholdSizesRow.func = some 4 := by kernel_rfl
theorem inst : Tryd.f4.isInstance Tryd.pinned.checked.prog Rows.thresholdSizesRow.origin Rows.thresholdSizesRow.targs := of_decide_eq_true (by kernel_rfl)
theorem wrapped : Tryd.f4.isWrapper Tryd.pinned.checked.prog Rows.thresholdSizesRow.wrapper Rows.thresholdSizesRow.mainSum := by
 unfold Func.isWrapper; first | (rw [if_pos (by decide +kernel)]; kernel_rfl) | (rw [if_neg (by decide +kernel)]; exact ⟨rfl, rfl⟩)
theorem over : Rows.thresholdSizesRow.holds Tryd.pinned (OpenSpec.ofChange Rows.thresholdSizesSpec) :=
 OpenClaim.holds_of_wide 4 Tryd.f4 rfl rfl rfl rfl rfl rfl rfl ⟨rfl, rfl, rfl, rfl, rfl⟩ rfl rfl rfl rfl rfl named Tryd.func4 closed inst wrapped
  (fun os started H enc _ => lifted os started H enc)
theorem noStand : ∀ t ∈ Tryd.f4.params.toList, Tryd.prog.wantsStandIn t = false := by
 have : (Tryd.f4.params.toList.all fun t => !(Tryd.prog.wantsStandIn t)) = true := by kernel_rfl
 simpa using this
theorem card : Claim7.holds Tryd.pinned (.plain (OpenSpec.ofChange Rows.thresholdSizesSpec)) Rows.thresholdSizesCard :=
 Claim7.holds_tied_plain_at .later [] [.listed, .data] true (true, "e2967dcd8b1038307918c5f45b19f151d0a4fa9aa731053d6761ee0c9b5c6b02") false
  over (fun _ h => by cases h) (by kernel_rfl) (fun _ h => by cases h) thresholdSizes_row_tie rfl ⟨rfl, rfl⟩ (by kernel_rfl) rfl
  (fun f fn hf hfn => by
   obtain rfl : f = 4 := Option.some.inj ((show Tryd.prog.funcNamed Rows.thresholdSizesRow.func = some 4 by kernel_rfl).symm.trans hf) |>.symm
   obtain rfl : fn = Tryd.f4 := (Option.some.inj (Tryd.func4.symm.trans hfn)).symm
   exact ⟨by kernel_rfl, fun j t ht => noStand t (by
    have : Tryd.f4.params.toList[j]? = some t := by simpa using ht
    exact List.mem_of_getElem? this)⟩)
  (by kernel_rfl)
end Go.Proofs.YtfoplfpbjajljaaDoor.thresholdSizes
namespace Go.Proofs.YtfoplfpbjajljaaDoor
theorem thresholdSizes_holds : Rows.ThresholdSizesCardSaid := thresholdSizes.card
end Go.Proofs.YtfoplfpbjajljaaDoor
