/- known examples and the law of shapes -/
import Derived.Test.YtihligeggkpolaaFnG
set_option maxRecDepth 100000
namespace Go.Proofs.Ytihligeggkpolaa

theorem shp5 : (shpT (Int.toNat 5)).length = 2 := by decide
theorem shp5' : (shpT (Int.toNat 5)).getD (Int.toNat 0) [] = [2, 0, 2, 0, 0] := by decide

theorem knownF : PSpec Try.prog 10 [] (fun u => u = .bool true) := by
  have hs := unfoldShapesF 5
  rw [shapesR_in (by decide)] at hs
  have hn := neighborsRing .nilsl 2 0 (by decide) (by decide) (by decide)
  simp only [show ((0:Int) - 1 < 0) = True from by simp, if_true, show (2:Int) - 1 = 1 from rfl, show (0:Int) + 1 = 1 from rfl, show ((1:Int) = 2) = False from by simp, if_false] at hn
  refine PSpec.intro tt_ok mx_ok Try.func10 rfl (by decide) ?_; (conv => whnf)
  (refine Spec.of_pure (n := 5) (hn) rfl ?_; rintro _ rfl; conv => whnf)
  (refine Spec.of_pure (n := 5) (hs) rfl ?_; rintro _ rfl; conv => whnf)
  repeat' (first
      | (refine needI (by first | omega | (dsimp only; omega)) ?_; conv => whnf)
      | (refine arI trivial (by omega) ?_; conv => whnf)
      | (refine arU trivial (by omega) ?_; conv => whnf)
      | (refine arB trivial (by omega) ?_; conv => whnf)
      | (refine drawI (by decide +kernel) ?_; conv => whnf)
      | (refine drawR (by decide +kernel) ?_; conv => whnf)
      | (refine boxP rfl ?_; conv => whnf)
      | (refine appI _ rfl (by first | omega | (dsimp only; omega) | (simp only [List.length_cons, List.length_nil, List.length_append]; omega)) ?_; conv => whnf)
      | (refine rowSetI _ rfl ?_; conv => whnf)
      | (refine cmpT (by omega) ?_; conv => whnf)
      | (refine cmpF (by omega) ?_; conv => whnf)
      | (refine cmpI (fun _ => ?_) (fun _ => ?_) <;> conv => whnf))
  · rw [shp5']
    refine Spec.hand 38 rfl ?_
    (refine Spec.of_pure (n := 5) (refSameInts [2, 0, 2, 0, 0] [2, 0, 2, 0, 0] (by decide)) rfl ?_; rintro _ rfl; conv => whnf)
    exact ⟨rfl, rfl⟩
  · rename_i h
    exact absurd (congrArg Int.ofNat shp5) h

theorem shapesR_b {n : Int} (h : 1 ≤ n ∧ n ≤ 8) : (shpT n.toNat).length ≤ 4611686018427387904 ∧ ∀ a ∈ shpT n.toNat, a.length ≤ 4611686018427387904 := by
  have : ∀ k : Nat, k ≤ 8 → (shpT k).length ≤ 1000 ∧ ∀ a ∈ shpT k, a.length ≤ 1000 := by decide
  have := this n.toNat (by omega)
  exact ⟨by omega, fun a ha => by have := this.2 a ha; omega⟩

theorem lawShapes (n : Int) : PSpec Try.prog 3 [.int .i64 n] (fun u => u = .bool true) := by
  have hs := unfoldShapesF n
  have hr := refShapesF n
  by_cases h : 1 ≤ n ∧ n ≤ 8
  · rw [shapesR_in h] at hs hr
    refine PSpec.intro tt_ok mx_ok Try.func3 rfl (by decide) ?_; (conv => whnf)
    (refine Spec.of_pure (n := 5) (hs) rfl ?_; rintro _ rfl; conv => whnf)
    (refine Spec.of_pure (n := 5) (hr) rfl ?_; rintro _ rfl; conv => whnf)
    refine cmpT rfl ?_
    conv => whnf
    (refine Spec.of_pure (n := 5) (sameShapesRefl (shpT n.toNat) (shapesR_b h).1 (shapesR_b h).2) rfl ?_; rintro _ rfl; conv => whnf)
    (refine Spec.of_pure (n := 5) (knownF) rfl ?_; rintro _ rfl; conv => whnf)
    exact ⟨rfl, rfl⟩
  · rw [shapesR_out h] at hs hr
    refine PSpec.intro tt_ok mx_ok Try.func3 rfl (by decide) ?_; (conv => whnf)
    (refine Spec.of_pure (n := 5) (hs) rfl ?_; rintro _ rfl; conv => whnf)
    (refine Spec.of_pure (n := 5) (hr) rfl ?_; rintro _ rfl; conv => whnf)
    refine cmpT rfl ?_
    conv => whnf
    (refine Spec.of_pure (n := 5) (sameShapesRefl [] (by decide) (by simp)) rfl ?_; rintro _ rfl; conv => whnf)
    (refine Spec.of_pure (n := 5) (knownF) rfl ?_; rintro _ rfl; conv => whnf)
    exact ⟨rfl, rfl⟩

end Go.Proofs.Ytihligeggkpolaa
