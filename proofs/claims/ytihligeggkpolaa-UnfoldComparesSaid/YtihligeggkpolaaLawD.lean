/-
  The law UnfoldCompares: for all three configurations the call returns true and the arguments read as they did.
-/
import Derived.Test.YtihligeggkpolaaRd
import Derived.Test.YtihligeggkpolaaFnM
namespace Go.Proofs.Ytihligeggkpolaa.unfoldCompares
open Go.ChangeShapes Go.WideShapes Go.ChangeAt Go.RowKit

theorem own : ownKnob Try.prog.godebug = none := by kernel_rfl
theorem laid : laidOutB Try.prog = true := by kernel_rfl
theorem fit : ∀ t ∈ Try.f6.params.toList, Try.prog.readableRec t = true ∧ t < Try.prog.types.size := by
  have : (Try.f6.params.toList.all fun t => Try.prog.readableRec t && decide (t < Try.prog.types.size)) = true := by kernel_rfl
  simpa using this
def cfgS : Sh := .sl (.int .nil) (.sl (.int .nil) (.int (.sl (.int .nil) (.sl (.int .nil) (.int .nil)))))
theorem shp0 : shOf Try.prog 9 38 = some cfgS := by kernel_rfl
theorem cfg_of {S : Store} {v : Value} {y : Den cfgS} (h : RP S v (.agg (encS cfgS y))) : ∃ c : Cfg, RP S v (.agg (encC c)) := by
  obtain ⟨l1, l2, n1, l3, l4, n2, ⟨⟩⟩ := y
  exact ⟨⟨_, _, _, _, _, _⟩, h.agg_cv (cs' := encC ⟨l1.map (fun x => x.1), l2.map (fun x => x.1), n1, l3.map (fun x => x.1), l4.map (fun x => x.1), n2⟩) ⟨Cv.ints l1, Cv.ints l2, Cv.refl _ _, Cv.ints l3, Cv.ints l4, Cv.refl _ _, trivial⟩⟩

set_option maxRecDepth 100000 in
theorem lifted (os : Os) (started : os.Started) (H : Type) (enc : TypeId × Value → H) :
    ReturnsInHanded {} Try.checked os 6 .any (Rows.unfoldComparesSpec.pre6 enc Try.prog Try.f6 Rows.unfoldComparesRow.domain false) (Rows.unfoldComparesSpec.post enc Try.prog Try.f6 false true false false) := by
  refine returnsInHanded_of_change (C := Try.checked) own started (by kernel_rfl) Try.func6
    (ChangeSpec.witness6 (enc := enc) (C := Try.checked) false ⟨#[], #[.agg #[.slice none 0 0, .slice none 0 0, .int .i64 0, .slice none 0 0, .slice none 0 0, .int .i64 0], .agg #[.slice none 0 0, .slice none 0 0, .int .i64 0, .slice none 0 0, .slice none 0 0, .int .i64 0], .agg #[.slice none 0 0, .slice none 0 0, .int .i64 0, .slice none 0 0, .slice none 0 0, .int .i64 0]], []⟩ 8 (by kernel_rfl) (by kernel_rfl) (by kernel_rfl) (by kernel_rfl)) ?_
  intro W base args ds gs before hval0 hW hcnd _
  have hval : ∀ (j : Nat) t v, Try.f6.params[j]? = some t → args[j]? = some v → Value.okWide Try.prog W .any base t v := hval0
  have hW' := hW
  obtain ⟨p, q, hA0, hV, rfl, hfz, hnd⟩ := hW
  have hA : DataW.TrodAll enc Try.prog W 0 (fun _ => true) true Try.f6.params.toList args.toList ds p := hA0
  rw [Try.params6] at hA hval
  obtain ⟨v0, v1, v2, d0, d1, d2, p0, p1, p2, rfl, rfl, rfl, h0, h1, h2⟩ := trodAll_three hA
  obtain ⟨rfl, rfl⟩ := trodVars_none hV
  obtain ⟨_, _, hr0⟩ := rd_agg Try.underlying38 shp0 (hval 0 _ v0 rfl rfl) h0
  obtain ⟨_, _, hr1⟩ := rd_agg Try.underlying38 shp0 (hval 1 _ v1 rfl rfl) h1
  obtain ⟨_, _, hr2⟩ := rd_agg Try.underlying38 shp0 (hval 2 _ v2 rfl rfl) h2
  obtain ⟨a, ha⟩ := cfg_of hr0
  obtain ⟨b, hb⟩ := cfg_of hr1
  obtain ⟨c, hc⟩ := cfg_of hr2
  refine ((lawCompares a b c).walkK [v0, v1, v2] W (.cons ha (.cons hb (.cons hc (.nil _))))).mono fun e W' ⟨he, hg⟩ => ?_
  subst he
  exact ⟨_, rfl, post_of_same hW' (fun _ _ _ => (trodAll_cons_mk (shut_bool Try.underlying4 _) trodAll_mk0))
    (fun sp hsp => TrodAll_stays laid fit hA0 (fun x hx => hg.sameAt (hW'.lt x (List.mem_append_left _ hx))) (fun x hx => hsp x (List.mem_append_left _ hx)))
    (fun _ _ => rfl) rfl (hg.2.frame _) hg.2.2.1 (ok_one (by kernel_rfl) rfl (okWide_bool_mk Try.underlying4 _))⟩

theorem over : Rows.unfoldComparesRow.holds Try.pinned (OpenSpec.ofChange Rows.unfoldComparesSpec) :=
  OpenClaim.holds_of_wide 6 Try.f6 rfl rfl rfl rfl rfl rfl rfl ⟨rfl, rfl, rfl, rfl, rfl⟩ rfl rfl rfl rfl rfl (by kernel_rfl) Try.func6 (by kernel_rfl)
    (of_decide_eq_true (by kernel_rfl)) (by unfold Func.isWrapper; first | (rw [if_pos (by decide +kernel)]; kernel_rfl) | (rw [if_neg (by decide +kernel)]; exact ⟨rfl, rfl⟩))
    (fun os started H enc _ => lifted os started H enc)

end Go.Proofs.Ytihligeggkpolaa.unfoldCompares
namespace Go.Proofs.Ytihligeggkpolaa
theorem unfoldCompares_holds : Rows.UnfoldComparesSaid := unfoldCompares.over
end Go.Proofs.Ytihligeggkpolaa
