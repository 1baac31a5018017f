import Derived.Test.YtjnjieabdjpfnabDoorTopC
import Derived.Test.YtjnjieabdjpfnabDoorRdV
import Derived.Test.YtjnjieabdjpfnabDoorM9
set_option linter.unusedVariables false
set_option linter.unusedSimpArgs false
namespace Go.Proofs.YtjnjieabdjpfnabDoor.unfoldReplayCuts
open Go.ChangeShapes Go.WideShapes Go.ChangeAt Go.RowKit
theorem fit : ∀ t ∈ Tryd.f7.params.toList, Tryd.prog.readableRec t = true ∧ t < Tryd.prog.types.size := by
 have : (Tryd.f7.params.toList.all fun t => Tryd.prog.readableRec t && decide (t < Tryd.prog.types.size)) = true := by kernel_rfl
 simpa using this
set_option maxRecDepth 100000 in
theorem lifted (os : Os) (started : os.Started) (H : Type) (enc : TypeId × Value → H) :
  ReturnsInHanded {} Tryd.checked os 7 .any (fun w args => (Rows.unfoldReplayCutsSpec.pre enc Tryd.prog Tryd.f7 [] false w args ∧ laidMetH Tryd.prog laidL w) ∧ sizedMet enc Tryd.prog Tryd.f7 (OpenSpec.ofChange Rows.unfoldReplayCutsSpec) false w args)
   (Rows.unfoldReplayCutsSpec.post enc Tryd.prog Tryd.f7 false true false false) := by
 refine returnsInHanded_of_change_and (C := Tryd.checked) (X := fun w _ => laidMetH Tryd.prog laidL w) (fun _ _ _ hh h => h.of_heap hh) own started (by kernel_rfl) Tryd.func7
  (ChangeSpec.witness_shaped (enc := enc) (C := Tryd.checked) (os := os) (X := fun w _ => laidMetH Tryd.prog laidL w) false (World.doorLaid Tryd.prog 4000 os) #[.agg #[.string ⟨#[]⟩, .int .i64 0, .slice none 0 0, .slice none 0 0, .slice none 0 0, .int .i64 0, .slice none 0 0, .slice none 0 0, .slice none 0 0, .slice none 0 0, .int .i64 0, .int .i64 0, .int .i64 0, .slice none 0 0, .slice none 0 0, .int .i64 0, .slice none 0 0, .slice none 0 0, .int .i64 0], .slice none 0 0, .int .i64 0] 8 rfl (World.shaped_of_RefB (by kernel_rfl) (by kernel_rfl)) (by kernel_rfl) (by kernel_rfl) (by kernel_rfl) (door_met os _)) ?_
 intro W base args ds gs before hval0 hW _ _ hL _
 have hval : ∀ (j : Nat) t v, Tryd.f7.params[j]? = some t → args[j]? = some v → Value.okWide Tryd.prog W .any base t v := hval0
 have hW' := hW
 obtain ⟨p, q, hA0, hV, rfl, hfz, hnd⟩ := hW
 have hA : DataW.TrodAll enc Tryd.prog W 0 (fun _ => true) true Tryd.f7.params.toList args.toList ds p := hA0
 rw [Tryd.params7] at hA hval
 obtain ⟨v0, v1, v2, d0, d1, d2, p0, p1, p2, rfl, rfl, rfl, h0, h1, h2⟩ := trodAll_three hA
 obtain ⟨rfl, rfl⟩ := trodVars_none hV
 obtain ⟨y0, wf0, hr0⟩ := rd_agg Tryd.underlying37 shAt (hval 0 _ v0 rfl rfl) h0
 obtain ⟨y1, wf1, hr1⟩ := rd_sl Tryd.underlying42 shSteps (hval 1 _ v1 rfl rfl) h1
 obtain ⟨i2, hi2, rfl⟩ := rd_int Tryd.underlying3 (hval 2 _ v2 rfl rfl) h2
 refine ((lawReplayCuts (atP y0) (atZ y0) (atC y0) (List.map stpOf y1.1) i2).walkK [v0, v1, .int .i64 i2] W (gl_of hL) (.cons (hr0.agg_cv (cv_at y0)) (.cons (rp_steps y1 hr1) (.cons (.int _ _) (.nil _))))).mono fun e W' ⟨he, hg⟩ => ?_
 subst he
 exact ⟨_, rfl, post_kept hW' (fun _ _ _ => (trodAll_cons_mk (shut_bool Tryd.underlying4 _) trodAll_mk0))
  (fun sp hsp => TrodAll_stays laid fit hA0 (fun x hx => hg.sameAt (hW'.lt x (List.mem_append_left _ hx))) (fun x hx => hsp x (List.mem_append_left _ hx)))
  (fun _ _ => rfl) rfl hg (ok_one (by kernel_rfl) rfl (okWide_bool_mk Tryd.underlying4 _))⟩
theorem and_t {a b : Bool} (h : a = true) (k : b = true) : (a && b) = true := by rw [h, k]; rfl
set_option maxHeartbeats 40000000 in
theorem closed : joinedFacts Tryd.pinned.checked.prog 7 Tryd.f7 Rows.unfoldReplayCutsSpec Rows.unfoldReplayCutsRow = true := by
 unfold joinedFacts
 repeat' (with_reducible refine and_t ?_ ?_)
 all_goals as_aux_lemma => kernel_rfl
theorem named : Tryd.pinned.checked.prog.funcNamed Rows.unfoldReplayCutsRow.func = some 7 := by kernel_rfl
theorem inst : Tryd.f7.isInstance Tryd.pinned.checked.prog Rows.unfoldReplayCutsRow.origin Rows.unfoldReplayCutsRow.targs := of_decide_eq_true (by kernel_rfl)
theorem wrapped : Tryd.f7.isWrapper Tryd.pinned.checked.prog Rows.unfoldReplayCutsRow.wrapper Rows.unfoldReplayCutsRow.mainSum := by
 unfold Func.isWrapper; first | (rw [if_pos (by decide +kernel)]; kernel_rfl) | (rw [if_neg (by decide +kernel)]; exact ⟨rfl, rfl⟩)
theorem over : Rows.unfoldReplayCutsRow.holds Tryd.pinned (OpenSpec.ofChange Rows.unfoldReplayCutsSpec) :=
 OpenClaim.holds_of_wide 7 Tryd.f7 rfl rfl rfl rfl rfl rfl rfl ⟨rfl, rfl, rfl, rfl, rfl⟩ rfl rfl rfl rfl rfl named Tryd.func7 closed inst wrapped
  (fun os started H enc _ => lifted os started H enc)
theorem noStand : ∀ t ∈ Tryd.f7.params.toList, Tryd.prog.wantsStandIn t = false := by
 have : (Tryd.f7.params.toList.all fun t => !(Tryd.prog.wantsStandIn t)) = true := by kernel_rfl
 simpa using this
theorem card : Claim7.holds Tryd.pinned (.plain (OpenSpec.ofChange Rows.unfoldReplayCutsSpec)) Rows.unfoldReplayCutsCard :=
 Claim7.holds_tied_plain_at .later [] [.listed, .data] true (true, "51fbbfb889880fde2982f451b3447c1ee26f2357295fe7b4af7046bfe104c63a") false
  over (fun _ h => by cases h) (by kernel_rfl) (fun _ h => by cases h) unfoldReplayCuts_row_tie rfl ⟨rfl, rfl⟩ (by kernel_rfl) rfl
  (fun f fn hf hfn => by
   obtain rfl : f = 7 := Option.some.inj ((show Tryd.prog.funcNamed Rows.unfoldReplayCutsRow.func = some 7 by kernel_rfl).symm.trans hf) |>.symm
   obtain rfl : fn = Tryd.f7 := (Option.some.inj (Tryd.func7.symm.trans hfn)).symm
   exact ⟨by kernel_rfl, fun j t ht => noStand t (by
    have : Tryd.f7.params.toList[j]? = some t := by simpa using ht
    exact List.mem_of_getElem? this)⟩)
  (by kernel_rfl)
end Go.Proofs.YtjnjieabdjpfnabDoor.unfoldReplayCuts
namespace Go.Proofs.YtjnjieabdjpfnabDoor
theorem unfoldReplayCuts_holds : Rows.UnfoldReplayCutsCardSaid := unfoldReplayCuts.card
end Go.Proofs.YtjnjieabdjpfnabDoor
