/-
  The law UnfoldNeighborsBack: for every topology, count, list of numbers and process the call returns true and the arguments read as they did.
-/
import Derived.Test.YtihligeggkpolaaRd
import Derived.Test.YtihligeggkpolaaFnL
namespace Go.Proofs.Ytihligeggkpolaa.unfoldNeighborsBack
open Go.ChangeShapes Go.WideShapes Go.ChangeAt Go.RowKit

theorem own : ownKnob Try.prog.godebug = none := by kernel_rfl
theorem laid : laidOutB Try.prog = true := by kernel_rfl
theorem fit : ∀ t ∈ Try.f5.params.toList, Try.prog.readableRec t = true ∧ t < Try.prog.types.size := by
  have : (Try.f5.params.toList.all fun t => Try.prog.readableRec t && decide (t < Try.prog.types.size)) = true := by kernel_rfl
  simpa using this
theorem shp0 : shOf Try.prog 9 33 = some (.int (.int (.sl (.int .nil) .nil))) := by kernel_rfl

set_option maxRecDepth 100000 in
theorem lifted (os : Os) (started : os.Started) (H : Type) (enc : TypeId × Value → H) :
    ReturnsInHanded {} Try.checked os 5 .any (Rows.unfoldNeighborsBackSpec.pre6 enc Try.prog Try.f5 Rows.unfoldNeighborsBackRow.domain false) (Rows.unfoldNeighborsBackSpec.post enc Try.prog Try.f5 false true false false) := by
  refine returnsInHanded_of_change (C := Try.checked) own started (by kernel_rfl) Try.func5
    (ChangeSpec.witness6 (enc := enc) (C := Try.checked) false ⟨#[], #[.agg #[.int .i64 0, .int .i64 0, .slice none 0 0], .int .i64 0], []⟩ 8 (by kernel_rfl) (by kernel_rfl) (by kernel_rfl) (by kernel_rfl)) ?_
  intro W base args ds gs before hval0 hW hcnd _
  have hval : ∀ (j : Nat) t v, Try.f5.params[j]? = some t → args[j]? = some v → Value.okWide Try.prog W .any base t v := hval0
  have hW' := hW
  obtain ⟨p, q, hA0, hV, rfl, hfz, hnd⟩ := hW
  have hA : DataW.TrodAll enc Try.prog W 0 (fun _ => true) true Try.f5.params.toList args.toList ds p := hA0
  rw [Try.params5] at hA hval
  obtain ⟨v0, v1, d0, d1, p0, p1, rfl, rfl, rfl, h0, h1⟩ := trodAll_two hA
  obtain ⟨rfl, rfl⟩ := trodVars_none hV
  obtain ⟨y, hwf, hr⟩ := rd_agg Try.underlying33 shp0 (hval 0 _ v0 rfl rfl) h0
  obtain ⟨i, hi, rfl⟩ := rd_int Try.underlying3 (hval 1 _ v1 rfl rfl) h1
  obtain ⟨t, n, l, ⟨⟩⟩ := y
  obtain ⟨w1, w2, ⟨w3, _⟩, _⟩ := hwf
  have hr2 := hr.agg_cv (cs' := [.int .i64 t, .int .i64 n, .sl 0 encI (l.map (fun x => x.1))]) ⟨Cv.refl _ _, Cv.refl _ _, Cv.ints l, trivial⟩
  refine ((lawNeighborsBack t n (l.map (fun x => x.1)) i (by rw [List.length_map]; exact Nat.le_trans w3 (by decide)) w2.2).walkK [v0, .int .i64 i] W (.cons hr2 (.cons (.int _ _) (.nil _)))).mono fun e W' ⟨he, hg⟩ => ?_
  subst he
  exact ⟨_, rfl, post_of_same hW' (fun _ _ _ => (trodAll_cons_mk (shut_bool Try.underlying4 _) trodAll_mk0))
    (fun sp hsp => TrodAll_stays laid fit hA0 (fun x hx => hg.sameAt (hW'.lt x (List.mem_append_left _ hx))) (fun x hx => hsp x (List.mem_append_left _ hx)))
    (fun _ _ => rfl) rfl (hg.2.frame _) hg.2.2.1 (ok_one (by kernel_rfl) rfl (okWide_bool_mk Try.underlying4 _))⟩

theorem over : Rows.unfoldNeighborsBackRow.holds Try.pinned (OpenSpec.ofChange Rows.unfoldNeighborsBackSpec) :=
  OpenClaim.holds_of_wide 5 Try.f5 rfl rfl rfl rfl rfl rfl rfl ⟨rfl, rfl, rfl, rfl, rfl⟩ rfl rfl rfl rfl rfl (by kernel_rfl) Try.func5 (by kernel_rfl)
    (of_decide_eq_true (by kernel_rfl)) (by unfold Func.isWrapper; first | (rw [if_pos (by decide +kernel)]; kernel_rfl) | (rw [if_neg (by decide +kernel)]; exact ⟨rfl, rfl⟩))
    (fun os started H enc _ => lifted os started H enc)

end Go.Proofs.Ytihligeggkpolaa.unfoldNeighborsBack
namespace Go.Proofs.Ytihligeggkpolaa
theorem unfoldNeighborsBack_holds : Rows.UnfoldNeighborsBackSaid := unfoldNeighborsBack.over
end Go.Proofs.Ytihligeggkpolaa
