import Derived.Test.YtboelimimjojoaaGreatDoorFsD
import Derived.Test.YtboelimimjojoaaGreatDoorMH
import Derived.Test.YtboelimimjojoaaGreatDoorMA
set_option linter.unusedVariables false
set_option linter.unusedSimpArgs false
namespace Go.Proofs.YtboelimimjojoaaGreatDoor
set_option maxRecDepth 100000
set_option maxHeartbeats 16000000
theorem sameRunR : PSpec Tryz.prog 29 [.agg (encRn rn0), .agg (encRn rn0)] (fun u => u = .bool true) := by
 refine PSpec.intro tt_ok mx_ok Tryz.func29 rfl (by decide) ?_; (conv => whnf)
 refine boxP rfl ?_
 conv => whnf
 refine boxP rfl ?_
 conv => whnf
 (refine oP (compareR cfg0 cfg0 rfl) ?_; conv => whnf)
 refine cmpT rfl ?_
 conv => whnf
 (refine oP (sameStepsR [] (by simp)) ?_; conv => whnf)
 exact ⟨rfl, rfl⟩
theorem sameRunS : Spec Tryz.prog 29 [.agg (encRn rn0), .agg (encRn rn0)] (Mem.ofL []) (fun u _ => u = .bool true) := Spec.of_pure (n := 5) sameRunR rfl fun u h => h
theorem lawShortest (p : Pro) (q : Prp) (s : Siz) : PSpec Tryz.prog 5 [.agg (encCs p q s)] (fun u => u = .bool true) := by
 refine PSpec.intro tt_ok mx_ok Tryz.func5 rfl (by decide) ?_; (conv => whnf)
 refine boxP rfl ?_
 conv => whnf
 refine dC (bigCaseF p q s) (fun _ => ?_) (fun _ => ?_) <;> (conv => whnf)
 ·(refine oP (knownF) ?_; conv => whnf)
  exact ⟨rfl, rfl⟩
 rename_i hb
 have hp : ¬ bigP p := fun h => hb (.inl h)
 have hq : ¬ bigQ q := fun h => hb (.inr h)
 refine dC (smallF s) (fun _ => ?_) (fun _ => ?_) <;> (conv => whnf)
 case refine_2 =>
  (refine oP (knownF) ?_; conv => whnf)
  exact ⟨rfl, rfl⟩
 refine Spec.of_pure (n := 5) (ShortestF p q s hp hq) rfl ?_
 rintro _ ⟨r, is, e, rfl, hA⟩
 conv => whnf
 refine Spec.of_pure (n := 5) (ShortestR p q s hp hq) rfl ?_
 rintro _ ⟨r', is', e', rfl, hB⟩
 obtain ⟨e1, e2, e3⟩ := hA.one hB
 subst e1
 subst e2
 cases is with
 |false =>
  have h1 := hA.no rfl
  have h2 := hB.no rfl
  subst h1
  subst h2
  conv => whnf
  refine cmpF (fun h => h rfl) ?_
  conv => whnf
  refine cmpF (fun h => h rfl) ?_
  conv => whnf
  refine Spec.call [] [] 400 rfl trivial (auto_) sameRunS ?_
  rintro u M rfl
  refine ⟨[], [], .bool true, rfl, trivial, rfl, ?_⟩
  conv => whnf
  (refine oP (knownF) ?_; conv => whnf)
  exact ⟨rfl, rfl⟩
 |true =>
  obtain ⟨_, h2, h3, h4⟩ := hA.yes rfl
  have hV := IsViolationR p q s r hp hq h3 (by omega)
  rw [decide_eq_true h2] at hV
  conv => whnf
  refine cmpF (fun h => h rfl) ?_
  conv => whnf
  refine cmpF (fun h => h (by rw [e3])) ?_
  conv => whnf
  (refine oP (hV) ?_; conv => whnf)
  (refine oP (knownF) ?_; conv => whnf)
  exact ⟨rfl, rfl⟩
theorem lawNoShorter (p : Pro) (q : Prp) (s : Siz) (r : Rn) : PSpec Tryz.prog 9 [.agg (encCs p q s), .agg (encRn r)] (fun u => u = .bool true) := by
 refine PSpec.intro tt_ok mx_ok Tryz.func9 rfl (by decide) ?_; (conv => whnf)
 refine boxP rfl ?_
 conv => whnf
 refine boxP rfl ?_
 conv => whnf
 refine dC (bigCaseF p q s) (fun _ => ?_) (fun _ => ?_) <;> (conv => whnf)
 ·(refine oP (knownF) ?_; conv => whnf)
  exact ⟨rfl, rfl⟩
 rename_i hb
 have hp : ¬ bigP p := fun h => hb (.inl h)
 have hq : ¬ bigQ q := fun h => hb (.inr h)
 refine dC (smallF s) (fun _ => ?_) (fun _ => ?_) <;> (conv => whnf)
 case refine_2 =>
  (refine oP (knownF) ?_; conv => whnf)
  exact ⟨rfl, rfl⟩
 refine dC (longF r) (fun _ => ?_) (fun _ => ?_) <;> (conv => whnf)
 ·(refine oP (knownF) ?_; conv => whnf)
  exact ⟨rfl, rfl⟩
 rename_i hlg
 have hw : wideB r.start = false := by
  cases h : wideB r.start with
  |false => rfl
  |true => exact absurd (.inl h) hlg
 have hl : r.steps.length ≤ 300 := by
  by_cases h : 300 < r.steps.length
  ·exact absurd (.inr h) hlg
  ·omega
 refine Spec.of_pure (n := 5) (ShortestF p q s hp hq) rfl ?_
 rintro _ ⟨w, is, e, rfl, hA⟩
 by_cases h0 : e = 0
 case neg =>
  conv => whnf
  refine cmpT h0 ?_
  conv => whnf
  (refine oP (knownF) ?_; conv => whnf)
  exact ⟨rfl, rfl⟩
 have hV := IsViolationF p q s r hp hq hw (by omega)
 by_cases hv : vioB p q s r
 case neg =>
  rw [decide_eq_false hv] at hV
  conv => whnf
  refine cmpF (fun h => h h0) ?_
  conv => whnf
  (refine oP (hV) ?_; conv => whnf)
  (refine oP (knownF) ?_; conv => whnf)
  exact ⟨rfl, rfl⟩
 rw [decide_eq_true hv] at hV
 obtain ⟨rfl, hle⟩ := hA.least hp hq h0 hv
 conv => whnf
 refine cmpF (fun h => h h0) ?_
 conv => whnf
 (refine oP (hV) ?_; conv => whnf)
 refine tI ?_
 conv => whnf
 (refine oP (knownF) ?_; conv => whnf)
 exact ⟨rfl, rfl⟩
end Go.Proofs.YtboelimimjojoaaGreatDoor
