
/-
  Sizes: expressions, which sizes are admissible, the number of processes.
-/
import Derived.Test.YtcbckmnbdcjeeaaGreatDoorFnV
set_option linter.unusedVariables false
set_option linter.unusedSimpArgs false
namespace Go.Proofs.YtcbckmnbdcjeeaaGreatDoor
set_option maxRecDepth 100000
set_option maxHeartbeats 4000000

structure Siz where
  n : Int
  t : Int
  f : Int
def encZ (s : Siz) : List AV := [.int .i64 s.n, .int .i64 s.t, .int .i64 s.f]
def evalL (l : Lin) (s : Siz) : Int := l.c + l.n * s.n + l.t * s.t + l.f * s.f
def inZ (s : Siz) : Prop := (0 ≤ s.n ∧ s.n ≤ 1048576) ∧ (0 ≤ s.t ∧ s.t ≤ 1048576) ∧ (0 ≤ s.f ∧ s.f ≤ 1048576)
theorem mul_b {a b : Int} (ha : facB a) (hb : 0 ≤ b ∧ b ≤ 1048576) : -104857600 ≤ a * b ∧ a * b ≤ 104857600 := by
  unfold facB at ha
  have h1 : a * b ≤ 100 * b := Int.mul_le_mul_of_nonneg_right ha.2 hb.1
  have h2 : -100 * b ≤ a * b := Int.mul_le_mul_of_nonneg_right ha.1 hb.1
  omega
theorem evalL_b {l : Lin} {s : Siz} (hl : bndB l) (hs : inZ s) : (-104857600 ≤ l.n * s.n ∧ l.n * s.n ≤ 104857600) ∧ (-104857600 ≤ l.t * s.t ∧ l.t * s.t ≤ 104857600) ∧ (-104857600 ≤ l.f * s.f ∧ l.f * s.f ≤ 104857600) ∧ (-100 ≤ l.c ∧ l.c ≤ 100) :=
  ⟨mul_b hl.2.1 hs.1, mul_b hl.2.2.1 hs.2.1, mul_b hl.2.2.2 hs.2.2, hl.1⟩
theorem evaluateF (l : Lin) (s : Siz) (hl : bndB l) (hs : inZ s) : PSpec Tryz.prog 160 [.agg (encLin l), .agg (encZ s)] (fun u => u = .tup [.int .i64 (evalL l s), .int .i64 0]) := by
  obtain ⟨b1, b2, b3, b4⟩ := evalL_b hl hs
  refine PSpec.intro tt_ok mx_ok Tryz.func160 rfl (by decide) ?_; (conv => whnf)
  refine boxP rfl ?_
  conv => whnf
  refine boxP rfl ?_
  conv => whnf
  refine Spec.dcall (n := 5) (boundedF l) rfl (fun _ => ?_) (fun _ => ?_) <;> (conv => whnf)
  case refine_2 => rename_i h; exact absurd hl h
  refine WPc.loopF tt_ok mx_ok (fun k : Nat => k ≤ 3) (fun k => [(19, .int .i64 (k : Int))]) (fun _ => [(17, .row 3 0 encI [s.n, s.t, s.f])]) (fun k => 3 - k) 0 (by omega) ?_; conv => whnf
  refine ⟨(Sub.id_ 400 rfl auto_ auto_), ?_⟩
  intro k hk
  conv => whnf
  refine cmpI (fun h1 => ?_) (fun h1 => ?_) <;> conv => whnf
  · refine needI (by omega) ?_
    rw [Int.toNat_natCast]
    have hx : 0 ≤ [s.n, s.t, s.f].getD k 0 ∧ [s.n, s.t, s.f].getD k 0 ≤ 1048576 := by
      obtain ⟨c1, c2, c3⟩ := hs
      have : k = 0 ∨ k = 1 ∨ k = 2 := by omega
      rcases this with rfl | rfl | rfl
      · exact c1
      · exact c2
      · exact c3
    conv => whnf
    repeat' (first
        | (refine needI (by first | omega | (dsimp only; omega)) ?_; conv => whnf)
        | (refine arI trivial (by omega) ?_; conv => whnf)
        | (refine cmpT (by omega) ?_; conv => whnf)
        | (refine cmpF (by omega) ?_; conv => whnf)
        | fail)
    exact ⟨k + 1, (Sub.id_ 400 rfl auto_ auto_), by omega, by dsimp only; omega⟩
  · repeat' (first
        | (refine needI (by first | omega | (dsimp only; omega)) ?_; conv => whnf)
        | (refine arI trivial (by omega) ?_; conv => whnf)
        | (refine cmpT (by omega) ?_; conv => whnf)
        | (refine cmpF (by omega) ?_; conv => whnf)
        | fail)
    exact ⟨rfl, rfl⟩
theorem valueR (l : Lin) (s : Siz) (hl : bndB l) (hs : inZ s) : PSpec Tryz.prog 162 [.agg (encLin l), .agg (encZ s)] (fun u => u = .int .i64 (evalL l s)) := by
  obtain ⟨b1, b2, b3, b4⟩ := evalL_b hl hs
  refine PSpec.intro tt_ok mx_ok Tryz.func162 rfl (by decide) ?_; (conv => whnf)
  refine boxP rfl ?_
  conv => whnf
  refine boxP rfl ?_
  conv => whnf
  repeat' (first
      | (refine needI (by first | omega | (dsimp only; omega)) ?_; conv => whnf)
      | (refine arI trivial (by omega) ?_; conv => whnf)
      | (refine cmpT (by omega) ?_; conv => whnf)
      | (refine cmpF (by omega) ?_; conv => whnf)
      | fail)
  exact ⟨rfl, rfl⟩
def admA (p : Pro) (s : Siz) : Prop := (1 ≤ s.n ∧ s.n ≤ 1048576) ∧ (0 ≤ s.t ∧ s.t ≤ s.n) ∧ (0 ≤ s.f ∧ s.f ≤ s.n)
def admC (p : Pro) (s : Siz) : Prop := ¬ (p.fault = 0 ∧ (s.t ≠ 0 ∨ s.f ≠ 0))
def admD (p : Pro) (s : Siz) : Prop := ¬ (p.topology = 4 ∧ s.n.tmod 2 = 0)
def admE (p : Pro) (s : Siz) : Prop := ∀ j, j < p.resilience.length → 0 ≤ evalL (p.resilience.getD j lin0) s
def admB (p : Pro) (s : Siz) : Prop := admA p s ∧ admC p s ∧ admD p s ∧ admE p s
instance (p : Pro) (s : Siz) : Decidable (admA p s) := inferInstanceAs (Decidable (_ ∧ _))
instance (p : Pro) (s : Siz) : Decidable (admC p s) := inferInstanceAs (Decidable (¬ _))
instance (p : Pro) (s : Siz) : Decidable (admD p s) := inferInstanceAs (Decidable (¬ _))
instance (p : Pro) (s : Siz) : Decidable (admE p s) := inferInstanceAs (Decidable (∀ j, j < p.resilience.length → _))
instance (p : Pro) (s : Siz) : Decidable (admB p s) := inferInstanceAs (Decidable (_ ∧ _))
theorem admA_in {p : Pro} {s : Siz} (h : admA p s) : inZ s := by unfold admA at h; unfold inZ; omega
theorem hasF (p : Pro) (s : Siz) (hp : ¬ bigP p) (hr : resB p) : PSpec Tryz.prog 159 [.agg (encP p), .agg (encZ s)] (fun u => u = .bool (decide (admB p s))) := by
  have hle := bigP_le hp
  refine PSpec.intro tt_ok mx_ok Tryz.func159 rfl (by decide) ?_; (conv => whnf)
  refine boxP rfl ?_
  conv => whnf
  refine boxP rfl ?_
  conv => whnf
  by_cases hA : admA p s
  case neg =>
    have hno : ¬ admB p s := fun h => hA h.1
    unfold admA at hA
    repeat' (first
        | (refine needI (by first | omega | (dsimp only; omega)) ?_; conv => whnf)
        | (refine arI trivial (by omega) ?_; conv => whnf)
        | (refine arU trivial (by omega) ?_; conv => whnf)
        | (refine arB trivial (by omega) ?_; conv => whnf)
        | (refine drawI (by decide +kernel) ?_; conv => whnf)
        | (refine drawR (by decide +kernel) ?_; conv => whnf)
        | (refine drawP (by decide +kernel) ?_; conv => whnf)
        | (refine boxP rfl ?_; conv => whnf)
        | (refine appI _ rfl (by first | omega | (dsimp only; omega) | (simp only [List.length_cons, List.length_nil, List.length_append]; omega)) ?_; conv => whnf)
        | (refine rowSetI _ rfl ?_; conv => whnf)
        | (refine cmpT (by omega) ?_; conv => whnf)
        | (refine cmpF (by omega) ?_; conv => whnf)
        | (refine cmpI (fun _ => ?_) (fun _ => ?_) <;> conv => whnf))
    all_goals exact ⟨dec_f hno, rfl⟩
  have hz := admA_in hA
  have hA2 := hA
  unfold admA at hA2
  by_cases hC : admC p s
  case neg =>
    have hno : ¬ admB p s := fun h => hC h.2.1
    unfold admC at hC
    repeat' (first
        | (refine needI (by first | omega | (dsimp only; omega)) ?_; conv => whnf)
        | (refine arI trivial (by omega) ?_; conv => whnf)
        | (refine arU trivial (by omega) ?_; conv => whnf)
        | (refine arB trivial (by omega) ?_; conv => whnf)
        | (refine drawI (by decide +kernel) ?_; conv => whnf)
        | (refine drawR (by decide +kernel) ?_; conv => whnf)
        | (refine drawP (by decide +kernel) ?_; conv => whnf)
        | (refine boxP rfl ?_; conv => whnf)
        | (refine appI _ rfl (by first | omega | (dsimp only; omega) | (simp only [List.length_cons, List.length_nil, List.length_append]; omega)) ?_; conv => whnf)
        | (refine rowSetI _ rfl ?_; conv => whnf)
        | (refine cmpT (by omega) ?_; conv => whnf)
        | (refine cmpF (by omega) ?_; conv => whnf)
        | (refine cmpI (fun _ => ?_) (fun _ => ?_) <;> conv => whnf))
    all_goals exact ⟨dec_f hno, rfl⟩
  have hC2 := hC
  unfold admC at hC2
  by_cases hD : admD p s
  case neg =>
    have hno : ¬ admB p s := fun h => hD h.2.2.1
    unfold admD at hD
    repeat' (first
        | (refine needI (by first | omega | (dsimp only; omega)) ?_; conv => whnf)
        | (refine arI trivial (by omega) ?_; conv => whnf)
        | (refine arU trivial (by omega) ?_; conv => whnf)
        | (refine arB trivial (by omega) ?_; conv => whnf)
        | (refine drawI (by decide +kernel) ?_; conv => whnf)
        | (refine drawR (by decide +kernel) ?_; conv => whnf)
        | (refine drawP (by decide +kernel) ?_; conv => whnf)
        | (refine boxP rfl ?_; conv => whnf)
        | (refine appI _ rfl (by first | omega | (dsimp only; omega) | (simp only [List.length_cons, List.length_nil, List.length_append]; omega)) ?_; conv => whnf)
        | (refine rowSetI _ rfl ?_; conv => whnf)
        | (refine cmpT (by omega) ?_; conv => whnf)
        | (refine cmpF (by omega) ?_; conv => whnf)
        | (refine cmpI (fun _ => ?_) (fun _ => ?_) <;> conv => whnf))
    all_goals exact ⟨dec_f hno, rfl⟩
  have hD2 := hD
  unfold admD at hD2
  repeat' (first
      | (refine needI (by first | omega | (dsimp only; omega)) ?_; conv => whnf)
      | (refine arI trivial (by omega) ?_; conv => whnf)
      | (refine arU trivial (by omega) ?_; conv => whnf)
      | (refine arB trivial (by omega) ?_; conv => whnf)
      | (refine drawI (by decide +kernel) ?_; conv => whnf)
      | (refine drawR (by decide +kernel) ?_; conv => whnf)
      | (refine drawP (by decide +kernel) ?_; conv => whnf)
      | (refine boxP rfl ?_; conv => whnf)
      | (refine appI _ rfl (by first | omega | (dsimp only; omega) | (simp only [List.length_cons, List.length_nil, List.length_append]; omega)) ?_; conv => whnf)
      | (refine rowSetI _ rfl ?_; conv => whnf)
      | (refine cmpT (by omega) ?_; conv => whnf)
      | (refine cmpF (by omega) ?_; conv => whnf)
      | (refine cmpI (fun _ => ?_) (fun _ => ?_) <;> conv => whnf))
  all_goals
    refine WPc.loopF tt_ok mx_ok (fun k : Nat => k ≤ p.resilience.length ∧ ∀ j, j < k → 0 ≤ evalL (p.resilience.getD j lin0) s) (fun k => [(69, .int .i64 (k : Int))]) (fun _ => []) (fun k => p.resilience.length - k) 0 ⟨by omega, fun j hj => by omega⟩ ?_; conv => whnf
    refine ⟨(Sub.id_ 400 rfl auto_ auto_), ?_⟩
    rintro k ⟨hk, ha⟩
    conv => whnf
    refine cmpI (fun h1 => ?_) (fun h1 => ?_) <;> conv => whnf
    · refine needI (by omega) ?_
      rw [Int.toNat_natCast]
      conv => whnf
      (refine Spec.of_pure (n := 5) (evaluateF (p.resilience.getD k lin0) s (hr k (by omega)) hz) rfl ?_; rintro _ rfl; conv => whnf)
      refine cmpF (by decide) ?_
      conv => whnf
      refine cmpI (fun h2 => ?_) (fun h2 => ?_) <;> conv => whnf
      · exact ⟨dec_f (fun h => by have := h.2.2.2 k (by omega); omega), rfl⟩
      · repeat' (first
            | (refine needI (by first | omega | (dsimp only; omega)) ?_; conv => whnf)
            | (refine arI trivial (by omega) ?_; conv => whnf)
            | (refine cmpT (by omega) ?_; conv => whnf)
            | (refine cmpF (by omega) ?_; conv => whnf)
            | fail)
        refine ⟨k + 1, (Sub.id_ 400 rfl auto_ auto_), ⟨by omega, fun j hj => ?_⟩, by dsimp only; omega⟩
        by_cases e : j = k
        · subst e; omega
        · exact ha j (by omega)
    · exact ⟨dec_t ⟨hA, hC, hD, fun j hj => ha j (by omega)⟩, rfl⟩
theorem tmod2 {n : Int} (h : 0 ≤ n) : n.tmod 2 = 0 ∨ n.tmod 2 = 1 := by
  rw [Int.tmod_eq_emod_of_nonneg h]; omega
theorem admissibleR (p : Pro) (s : Siz) (hp : ¬ bigP p) (hr : resB p) : PSpec Tryz.prog 128 [.agg (encP p), .agg (encZ s)] (fun u => u = .bool (decide (admB p s))) := by
  have hle := bigP_le hp
  refine PSpec.intro tt_ok mx_ok Tryz.func128 rfl (by decide) ?_; (conv => whnf)
  refine boxP rfl ?_
  conv => whnf
  refine boxP rfl ?_
  conv => whnf
  refine Spec.dcall (n := 5) (withinR _ _ _) rfl (fun _ => ?_) (fun _ => ?_) <;> (conv => whnf)
  case refine_2 => rename_i h; exact ⟨dec_f (fun hh => h hh.1.1), rfl⟩
  rename_i a1
  refine Spec.dcall (n := 5) (withinR _ _ _) rfl (fun _ => ?_) (fun _ => ?_) <;> (conv => whnf)
  case refine_2 => rename_i h; exact ⟨dec_f (fun hh => h hh.1.2.1), rfl⟩
  rename_i a2
  refine Spec.dcall (n := 5) (withinR _ _ _) rfl (fun _ => ?_) (fun _ => ?_) <;> (conv => whnf)
  case refine_2 => rename_i h; exact ⟨dec_f (fun hh => h hh.1.2.2), rfl⟩
  rename_i a3
  have hA : admA p s := ⟨a1, a2, a3⟩
  have hz := admA_in hA
  have ht := tmod2 (n := s.n) (by omega)
  refine WPc.loopF tt_ok mx_ok (fun k : Nat => k ≤ p.resilience.length ∧ ∀ j, j < k → 0 ≤ evalL (p.resilience.getD j lin0) s) (fun k => [(5, .int .i64 (k : Int))]) (fun _ => []) (fun k => p.resilience.length - k) 0 ⟨by omega, fun j hj => by omega⟩ ?_; conv => whnf
  refine ⟨(Sub.id_ 400 rfl auto_ auto_), ?_⟩
  rintro k ⟨hk, ha⟩
  conv => whnf
  refine cmpI (fun h1 => ?_) (fun h1 => ?_) <;> conv => whnf
  · refine drawI (by decide +kernel) ?_
    conv => whnf
    refine needI (by omega) ?_
    rw [Int.toNat_natCast]
    conv => whnf
    (refine callPI 5 (valueR (p.resilience.getD k lin0) s (hr k (by omega)) hz) rfl ⟨_, rfl⟩ ?_; rintro _ rfl; conv => whnf)
    refine cmpI (fun h2 => ?_) (fun h2 => ?_) <;> conv => whnf
    · exact ⟨dec_f (fun h => by have := h.2.2.2 k (by omega); omega), rfl⟩
    · repeat' (first
          | (refine needI (by first | omega | (dsimp only; omega)) ?_; conv => whnf)
          | (refine arI trivial (by omega) ?_; conv => whnf)
          | (refine cmpT (by omega) ?_; conv => whnf)
          | (refine cmpF (by omega) ?_; conv => whnf)
          | fail)
      refine ⟨k + 1, (Sub.id_ 400 rfl auto_ auto_), ⟨by omega, fun j hj => ?_⟩, by dsimp only; omega⟩
      by_cases e : j = k
      · subst e; omega
      · exact ha j (by omega)
  have hE : admE p s := fun j hj => ha j (by omega)
  by_cases hC : admC p s
  case neg =>
    have hno : ¬ admB p s := fun h => hC h.2.1
    unfold admC at hC
    repeat' (first
        | (refine needI (by first | omega | (dsimp only; omega)) ?_; conv => whnf)
        | (refine arI trivial (by omega) ?_; conv => whnf)
        | (refine arU trivial (by omega) ?_; conv => whnf)
        | (refine arB trivial (by omega) ?_; conv => whnf)
        | (refine drawI (by decide +kernel) ?_; conv => whnf)
        | (refine drawR (by decide +kernel) ?_; conv => whnf)
        | (refine drawP (by decide +kernel) ?_; conv => whnf)
        | (refine boxP rfl ?_; conv => whnf)
        | (refine appI _ rfl (by first | omega | (dsimp only; omega) | (simp only [List.length_cons, List.length_nil, List.length_append]; omega)) ?_; conv => whnf)
        | (refine rowSetI _ rfl ?_; conv => whnf)
        | (refine cmpT (by omega) ?_; conv => whnf)
        | (refine cmpF (by omega) ?_; conv => whnf)
        | (refine cmpI (fun _ => ?_) (fun _ => ?_) <;> conv => whnf))
    all_goals exact ⟨dec_f hno, rfl⟩
  by_cases hD : admD p s
  case neg =>
    have hno : ¬ admB p s := fun h => hD h.2.2.1
    unfold admC at hC
    unfold admD at hD
    repeat' (first
        | (refine needI (by first | omega | (dsimp only; omega)) ?_; conv => whnf)
        | (refine arI trivial (by omega) ?_; conv => whnf)
        | (refine arU trivial (by omega) ?_; conv => whnf)
        | (refine arB trivial (by omega) ?_; conv => whnf)
        | (refine drawI (by decide +kernel) ?_; conv => whnf)
        | (refine drawR (by decide +kernel) ?_; conv => whnf)
        | (refine drawP (by decide +kernel) ?_; conv => whnf)
        | (refine boxP rfl ?_; conv => whnf)
        | (refine appI _ rfl (by first | omega | (dsimp only; omega) | (simp only [List.length_cons, List.length_nil, List.length_append]; omega)) ?_; conv => whnf)
        | (refine rowSetI _ rfl ?_; conv => whnf)
        | (refine cmpT (by omega) ?_; conv => whnf)
        | (refine cmpF (by omega) ?_; conv => whnf)
        | (refine cmpI (fun _ => ?_) (fun _ => ?_) <;> conv => whnf))
    all_goals exact ⟨dec_f hno, rfl⟩
  have hyes : admB p s := ⟨hA, hC, hD, hE⟩
  unfold admC at hC
  unfold admD at hD
  repeat' (first
      | (refine needI (by first | omega | (dsimp only; omega)) ?_; conv => whnf)
      | (refine arI trivial (by omega) ?_; conv => whnf)
      | (refine arU trivial (by omega) ?_; conv => whnf)
      | (refine arB trivial (by omega) ?_; conv => whnf)
      | (refine drawI (by decide +kernel) ?_; conv => whnf)
      | (refine drawR (by decide +kernel) ?_; conv => whnf)
      | (refine drawP (by decide +kernel) ?_; conv => whnf)
      | (refine boxP rfl ?_; conv => whnf)
      | (refine appI _ rfl (by first | omega | (dsimp only; omega) | (simp only [List.length_cons, List.length_nil, List.length_append]; omega)) ?_; conv => whnf)
      | (refine rowSetI _ rfl ?_; conv => whnf)
      | (refine cmpT (by omega) ?_; conv => whnf)
      | (refine cmpF (by omega) ?_; conv => whnf)
      | (refine cmpI (fun _ => ?_) (fun _ => ?_) <;> conv => whnf))
  all_goals exact ⟨dec_t hyes, rfl⟩
theorem validE_res {p : Pro} (h : validE p = 0) : resB p := by
  unfold validE at h
  refine Classical.byContradiction fun hn => ?_
  (repeat' split at h) <;> first | omega | exact absurd ‹¬ ¬ resB p› (fun hh => hh hn)
def sizeE (p : Pro) (s : Siz) : Int := if validE p ≠ 0 then validE p else if ¬ admB p s then 8 else if 8 < s.n then 4 else 0
theorem admissibleF (p : Pro) (s : Siz) (hp : ¬ bigP p) (hv : validE p = 0) : PSpec Tryz.prog 119 [.agg (encP p), .agg (encZ s)] (fun u => u = .bool (decide (admB p s))) := by
  refine PSpec.intro tt_ok mx_ok Tryz.func119 rfl (by decide) ?_; (conv => whnf)
  refine boxP rfl ?_
  conv => whnf
  refine boxP rfl ?_
  conv => whnf
  (refine Spec.of_pure (n := 5) (validateF p hp) rfl ?_; rintro _ rfl; conv => whnf)
  refine cmpT hv ?_
  conv => whnf
  refine Spec.dcall (n := 5) (hasF p s hp (validE_res hv)) rfl (fun _ => ?_) (fun _ => ?_) <;> (conv => whnf)
  · rename_i h; exact ⟨dec_t h, rfl⟩
  · rename_i h; exact ⟨dec_f h, rfl⟩
theorem checkSizeF (p : Pro) (s : Siz) (hp : ¬ bigP p) : PSpec Tryz.prog 79 [.agg (encP p), .agg (encZ s)] (fun u => u = .int .i64 (sizeE p s)) := by
  refine PSpec.intro tt_ok mx_ok Tryz.func79 rfl (by decide) ?_; (conv => whnf)
  refine boxP rfl ?_
  conv => whnf
  refine boxP rfl ?_
  conv => whnf
  (refine Spec.of_pure (n := 5) (validateF p hp) rfl ?_; rintro _ rfl; conv => whnf)
  refine cmpI (fun h1 => ?_) (fun h1 => ?_) <;> conv => whnf
  · (refine Spec.of_pure (n := 5) (validateF p hp) rfl ?_; rintro _ rfl; conv => whnf)
    exact ⟨av_int (by rw [sizeE, if_pos h1]), rfl⟩
  have h1 : validE p = 0 := by omega
  refine Spec.dcall (n := 5) (admissibleF p s hp h1) rfl (fun _ => ?_) (fun _ => ?_) <;> (conv => whnf)
  · rename_i h2
    refine cmpI (fun h3 => ?_) (fun h3 => ?_) <;> conv => whnf
    · exact ⟨av_int (by rw [sizeE, if_neg (by omega), if_neg (fun h => h h2), if_pos h3]), rfl⟩
    · exact ⟨av_int (by rw [sizeE, if_neg (by omega), if_neg (fun h => h h2), if_neg h3]), rfl⟩
  · rename_i h2
    exact ⟨av_int (by rw [sizeE, if_neg (by omega), if_pos h2]), rfl⟩
theorem sizedR (p : Pro) (s : Siz) (hp : ¬ bigP p) : PSpec Tryz.prog 89 [.agg (encP p), .agg (encZ s)] (fun u => u = .int .i64 (sizeE p s)) := by
  refine PSpec.intro tt_ok mx_ok Tryz.func89 rfl (by decide) ?_; (conv => whnf)
  refine boxP rfl ?_
  conv => whnf
  refine boxP rfl ?_
  conv => whnf
  (refine Spec.of_pure (n := 5) (validateR p hp) rfl ?_; rintro _ rfl; conv => whnf)
  refine cmpI (fun h1 => ?_) (fun h1 => ?_) <;> conv => whnf
  · exact ⟨av_int (by rw [sizeE, if_pos h1]), rfl⟩
  have h1 : validE p = 0 := by omega
  refine Spec.dcall (n := 5) (admissibleR p s hp (validE_res h1)) rfl (fun _ => ?_) (fun _ => ?_) <;> (conv => whnf)
  · rename_i h2
    refine cmpI (fun h3 => ?_) (fun h3 => ?_) <;> conv => whnf
    · exact ⟨av_int (by rw [sizeE, if_neg (by omega), if_neg (fun h => h h2), if_pos h3]), rfl⟩
    · exact ⟨av_int (by rw [sizeE, if_neg (by omega), if_neg (fun h => h h2), if_neg h3]), rfl⟩
  · rename_i h2
    exact ⟨av_int (by rw [sizeE, if_neg (by omega), if_pos h2]), rfl⟩
theorem sizeE_ok {p : Pro} {s : Siz} (h : sizeE p s = 0) : validE p = 0 ∧ admB p s ∧ 1 ≤ s.n ∧ s.n ≤ 8 ∧ 0 ≤ s.t ∧ s.t ≤ s.n ∧ 0 ≤ s.f ∧ s.f ≤ s.n := by
  unfold sizeE at h
  split at h
  · omega
  · rename_i h1
    split at h
    · omega
    · rename_i h2
      split at h
      · omega
      · have h2 : admB p s := Classical.byContradiction h2
        have := h2.1
        unfold admA at this
        exact ⟨by omega, h2, by omega⟩
def modN (p : Pro) (s : Siz) : Int := if p.fault = 3 then s.n - s.f else s.n
theorem modeledF (p : Pro) (s : Siz) (h : 0 ≤ s.n ∧ s.n ≤ 1048576 ∧ 0 ≤ s.f ∧ s.f ≤ 1048576) : PSpec Tryz.prog 121 [.agg (encP p), .agg (encZ s)] (fun u => u = .int .i64 (modN p s)) := by
  refine PSpec.intro tt_ok mx_ok Tryz.func121 rfl (by decide) ?_; (conv => whnf)
  refine boxP rfl ?_
  conv => whnf
  refine boxP rfl ?_
  conv => whnf
  repeat' (first
      | (refine needI (by first | omega | (dsimp only; omega)) ?_; conv => whnf)
      | (refine arI trivial (by omega) ?_; conv => whnf)
      | (refine arU trivial (by omega) ?_; conv => whnf)
      | (refine arB trivial (by omega) ?_; conv => whnf)
      | (refine drawI (by decide +kernel) ?_; conv => whnf)
      | (refine drawR (by decide +kernel) ?_; conv => whnf)
      | (refine drawP (by decide +kernel) ?_; conv => whnf)
      | (refine boxP rfl ?_; conv => whnf)
      | (refine appI _ rfl (by first | omega | (dsimp only; omega) | (simp only [List.length_cons, List.length_nil, List.length_append]; omega)) ?_; conv => whnf)
      | (refine rowSetI _ rfl ?_; conv => whnf)
      | (refine cmpT (by omega) ?_; conv => whnf)
      | (refine cmpF (by omega) ?_; conv => whnf)
      | (refine cmpI (fun _ => ?_) (fun _ => ?_) <;> conv => whnf))
  · rename_i h3; exact ⟨av_int (by rw [modN, if_pos h3]), rfl⟩
  · rename_i h3; exact ⟨av_int (by rw [modN, if_neg h3]), rfl⟩
theorem modeledR (p : Pro) (s : Siz) (h : 0 ≤ s.n ∧ s.n ≤ 1048576 ∧ 0 ≤ s.f ∧ s.f ≤ 1048576) : PSpec Tryz.prog 129 [.agg (encP p), .agg (encZ s)] (fun u => u = .int .i64 (modN p s)) := by
  refine PSpec.intro tt_ok mx_ok Tryz.func129 rfl (by decide) ?_; (conv => whnf)
  refine boxP rfl ?_
  conv => whnf
  refine boxP rfl ?_
  conv => whnf
  repeat' (first
      | (refine needI (by first | omega | (dsimp only; omega)) ?_; conv => whnf)
      | (refine arI trivial (by omega) ?_; conv => whnf)
      | (refine arU trivial (by omega) ?_; conv => whnf)
      | (refine arB trivial (by omega) ?_; conv => whnf)
      | (refine drawI (by decide +kernel) ?_; conv => whnf)
      | (refine drawR (by decide +kernel) ?_; conv => whnf)
      | (refine drawP (by decide +kernel) ?_; conv => whnf)
      | (refine boxP rfl ?_; conv => whnf)
      | (refine appI _ rfl (by first | omega | (dsimp only; omega) | (simp only [List.length_cons, List.length_nil, List.length_append]; omega)) ?_; conv => whnf)
      | (refine rowSetI _ rfl ?_; conv => whnf)
      | (refine cmpT (by omega) ?_; conv => whnf)
      | (refine cmpF (by omega) ?_; conv => whnf)
      | (refine cmpI (fun _ => ?_) (fun _ => ?_) <;> conv => whnf))
  · rename_i h3; exact ⟨av_int (by rw [modN, if_pos h3]), rfl⟩
  · rename_i h3; exact ⟨av_int (by rw [modN, if_neg h3]), rfl⟩
def modE (p : Pro) (s : Siz) : Int := if sizeE p s ≠ 0 then 0 else modN p s
end Go.Proofs.YtcbckmnbdcjeeaaGreatDoor
