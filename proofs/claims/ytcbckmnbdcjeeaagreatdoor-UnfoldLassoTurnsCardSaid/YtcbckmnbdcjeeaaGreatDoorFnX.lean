
/-
  Which configurations are valid.
-/
import Derived.Test.YtcbckmnbdcjeeaaGreatDoorFnW
set_option linter.unusedVariables false
set_option linter.unusedSimpArgs false
namespace Go.Proofs.YtcbckmnbdcjeeaaGreatDoor
set_option maxRecDepth 100000
set_option maxHeartbeats 4000000

theorem shpB_eq : ∀ (l : List Int) (n : Nat), shpB n l = decide (skipN n l = some [])
  | [], n => by
    cases n with
    | zero => rfl
    | succ n => rw [skipN_nil]; simp [shpB]; omega
  | x :: xs, 0 => by rw [skipN_zero]; simp [shpB]
  | x :: xs, n + 1 => by
    rw [skipN_cons, shpB]
    by_cases h0 : x = 0
    · subst h0
      rw [if_neg (by omega), if_neg (by omega), if_pos rfl]
      have := shpB_eq xs n
      rw [← this]; congr 1 <;> omega
    · by_cases h2 : x = 2
      · subst h2
        rw [if_neg (by omega), if_neg (by omega), if_neg h0, if_pos rfl]
        have := shpB_eq xs (n + 2)
        rw [← this]; congr 1 <;> omega
      · rw [if_neg (by omega), if_pos ⟨h0, h2⟩, if_neg h0, if_neg h2]; simp
theorem isShapeD (l : List Int) (hl : l.length ≤ 1000) : PSpec Tryz.prog 132 [.sl 0 encI l] (fun u => u = .bool (decide (shp l))) := by
  have := isShapeF l hl
  rw [show shpB 1 l = decide (shp l) from shpB_eq l 1] at this
  exact this

def whL (p : Pro) : Int := if p.fault = 1 ∨ p.fault = 2 then 1048576 else 0
/-- a configuration of a size -/
structure VC (p : Pro) (s : Siz) (c : Cfg) : Prop where
  len : (c.states.length : Int) = modN p s
  sta : inR c.states p.states.length
  cor : c.correct = s.n - s.f
  snl : c.sent.length = p.messages.length
  sen : inR c.sent 1048577
  fal : c.faulty.length = p.messages.length
  fau : inR c.faulty (whL p + 1)
  va0 : 0 ≤ c.value
  va1 : c.value < 1 ∨ c.value < p.values.length
  tre : p.topology = 4 → (c.shape.length : Int) = s.n ∧ shp c.shape
  non : p.topology ≠ 4 → c.shape.length = 0
noncomputable instance decVC (p : Pro) (s : Siz) (c : Cfg) : Decidable (VC p s c) := Classical.propDecidable _
noncomputable def vcE (p : Pro) (s : Siz) (c : Cfg) : Int := if VC p s c then 0 else 1

theorem inClosF (l : List Int) (m : Int) (hl : l.length ≤ 1000) : PSpec Tryz.prog 120 [.sl 0 encI l, .int .i64 m] (fun u => u = .bool (decide (inR l (m + 1)))) := by
  refine PSpec.intro tt_ok mx_ok Tryz.func120 rfl (by decide) ?_; (conv => whnf)
  refine WPc.loopF tt_ok mx_ok (fun k : Nat => k ≤ l.length ∧ ∀ j, j < k → 0 ≤ l.getD j 0 ∧ l.getD j 0 < m + 1) (fun k => [(9, .int .i64 (k : Int))]) (fun _ => []) (fun k => l.length - k) 0 ⟨by omega, fun j hj => by omega⟩ ?_; conv => whnf
  refine ⟨(Sub.id_ 400 rfl auto_ auto_), ?_⟩
  rintro k ⟨hk, ha⟩
  conv => whnf
  refine cmpI (fun h1 => ?_) (fun h1 => ?_) <;> conv => whnf
  · refine needI (by omega) ?_
    rw [Int.toNat_natCast]
    by_cases h2 : 0 ≤ l.getD k 0 ∧ l.getD k 0 < m + 1
    · conv => whnf
      repeat' (first
          | (refine needI (by first | omega | (dsimp only; omega)) ?_; conv => whnf)
          | (refine arI trivial (by omega) ?_; conv => whnf)
          | (refine cmpT (by omega) ?_; conv => whnf)
          | (refine cmpF (by omega) ?_; conv => whnf)
          | fail)
      refine ⟨k + 1, (Sub.id_ 400 rfl auto_ auto_), ⟨by omega, fun j hj => ?_⟩, by dsimp only; omega⟩
      by_cases e : j = k
      · subst e; omega
      · exact ha j (by omega)
    · conv => whnf
      repeat' (first
          | (refine needI (by first | omega | (dsimp only; omega)) ?_; conv => whnf)
          | (refine arI trivial (by omega) ?_; conv => whnf)
          | (refine arU trivial (by omega) ?_; conv => whnf)
          | (refine arB trivial (by omega) ?_; conv => whnf)
          | (refine drawI (by decide +kernel) ?_; conv => whnf)
          | (refine drawR (by decide +kernel) ?_; conv => whnf)
          | (refine drawP (by decide +kernel) ?_; conv => whnf)
          | (refine boxP rfl ?_; conv => whnf)
          | (refine appI _ rfl (by first | omega | (dsimp only; omega) | (simp only [List.length_cons, List.length_nil, List.length_append]; omega)) ?_; conv => whnf)
          | (refine rowSetI _ rfl ?_; conv => whnf)
          | (refine cmpT (by omega) ?_; conv => whnf)
          | (refine cmpF (by omega) ?_; conv => whnf)
          | (refine cmpI (fun _ => ?_) (fun _ => ?_) <;> conv => whnf))
      all_goals exact ⟨dec_f (fun h => h2 (h k (by omega))), rfl⟩
  · exact ⟨dec_t (fun j hj => ha j (by omega)), rfl⟩
theorem endsL_ne {l : List Int} (h : shp l) : endsL l ≠ [] := by
  intro e
  have h1 := shp_pos h
  have h2 : (endsL l).length = l.length := by simp [endsL]
  rw [e] at h2
  simp at h2
  omega
theorem validConfigF (p : Pro) (s : Siz) (c : Cfg) (hp : ¬ bigP p) (hw : wideB c = false) (hs : 0 ≤ s.n ∧ s.n ≤ 1048576 ∧ 0 ≤ s.f ∧ s.f ≤ 1048576) : PSpec Tryz.prog 80 [.agg (encP p), .agg (encZ s), .agg (encC c)] (fun u => u = .int .i64 (vcE p s c)) := by
  have hle := bigP_le hp
  have hc : c.shape.length ≤ 100 ∧ c.states.length ≤ 100 ∧ c.sent.length ≤ 100 ∧ c.faulty.length ≤ 100 := by
    unfold wideB at hw
    simp at hw
    omega
  have bad : ¬ VC p s c → vcE p s c = 1 := fun h => by rw [vcE, if_neg h]
  refine PSpec.intro tt_ok mx_ok Tryz.func80 rfl (by decide) ?_; (conv => whnf)
  refine boxP rfl ?_
  conv => whnf
  refine boxP rfl ?_
  conv => whnf
  refine boxP rfl ?_
  conv => whnf
  have hwl : (whL p = 1048576 ∧ (p.fault = 1 ∨ p.fault = 2)) ∨ (whL p = 0 ∧ ¬ (p.fault = 1 ∨ p.fault = 2)) := by
    unfold whL
    by_cases h : p.fault = 1 ∨ p.fault = 2
    · rw [if_pos h]; exact .inl ⟨rfl, h⟩
    · rw [if_neg h]; exact .inr ⟨rfl, h⟩
  have ht4 : p.topology = 4 ∨ p.topology ≠ 4 := by omega
  rcases ht4 with ht | ht <;> rcases hwl with ⟨hwl, hfa⟩ | ⟨hwl, hfa⟩
  all_goals
    repeat' (first | (refine cmpT (by omega) ?_; conv => whnf) | (refine cmpF (by omega) ?_; conv => whnf) | (refine cmpI (fun _ => ?_) (fun _ => ?_) <;> conv => whnf))
  all_goals
    refine drawI (by decide +kernel) ?_
    conv => whnf
    (refine callPI 5 (modeledF p s hs) rfl ⟨_, rfl⟩ ?_; rintro _ rfl; conv => whnf)
    refine cmpI (fun h1 => ?_) (fun h1 => ?_) <;> conv => whnf
    case refine_2 =>
      repeat' (first
          | (refine needI (by first | omega | (dsimp only; omega)) ?_; conv => whnf)
          | (refine arI trivial (by omega) ?_; conv => whnf)
          | (refine cmpT (by omega) ?_; conv => whnf)
          | (refine cmpF (by omega) ?_; conv => whnf)
          | fail)
      exact ⟨av_int (bad (fun h => h1 h.len)).symm, rfl⟩
    repeat' (first
        | (refine needI (by first | omega | (dsimp only; omega)) ?_; conv => whnf)
        | (refine arI trivial (by omega) ?_; conv => whnf)
        | (refine cmpT (by omega) ?_; conv => whnf)
        | (refine cmpF (by omega) ?_; conv => whnf)
        | fail)
    refine callD 5 (inClosF c.states _ (by omega)) rfl (fun _ => ?_) (fun _ => ?_) <;> (conv => whnf)
    case refine_2 =>
      rename_i h
      repeat' (first
          | (refine needI (by first | omega | (dsimp only; omega)) ?_; conv => whnf)
          | (refine arI trivial (by omega) ?_; conv => whnf)
          | (refine cmpT (by omega) ?_; conv => whnf)
          | (refine cmpF (by omega) ?_; conv => whnf)
          | fail)
      exact ⟨av_int (bad (fun hh => h (by have := hh.sta; rwa [show (p.states.length : Int) - 1 + 1 = p.states.length by omega]))).symm, rfl⟩
    rename_i h2
    rw [show (p.states.length : Int) - 1 + 1 = p.states.length by omega] at h2
    repeat' (first
        | (refine needI (by first | omega | (dsimp only; omega)) ?_; conv => whnf)
        | (refine arI trivial (by omega) ?_; conv => whnf)
        | (refine cmpT (by omega) ?_; conv => whnf)
        | (refine cmpF (by omega) ?_; conv => whnf)
        | fail)
    refine cmpI (fun h3 => ?_) (fun h3 => ?_) <;> conv => whnf
    case refine_2 =>
      repeat' (first
          | (refine needI (by first | omega | (dsimp only; omega)) ?_; conv => whnf)
          | (refine arI trivial (by omega) ?_; conv => whnf)
          | (refine cmpT (by omega) ?_; conv => whnf)
          | (refine cmpF (by omega) ?_; conv => whnf)
          | fail)
      exact ⟨av_int (bad (fun h => h3 h.cor)).symm, rfl⟩
    refine cmpI (fun h4 => ?_) (fun h4 => ?_) <;> conv => whnf
    case refine_2 =>
      repeat' (first
          | (refine needI (by first | omega | (dsimp only; omega)) ?_; conv => whnf)
          | (refine arI trivial (by omega) ?_; conv => whnf)
          | (refine cmpT (by omega) ?_; conv => whnf)
          | (refine cmpF (by omega) ?_; conv => whnf)
          | fail)
      exact ⟨av_int (bad (fun h => h4 (by have := h.snl; omega))).symm, rfl⟩
    refine callD 5 (inClosF c.sent _ (by omega)) rfl (fun _ => ?_) (fun _ => ?_) <;> (conv => whnf)
    case refine_2 =>
      rename_i h
      repeat' (first
          | (refine needI (by first | omega | (dsimp only; omega)) ?_; conv => whnf)
          | (refine arI trivial (by omega) ?_; conv => whnf)
          | (refine cmpT (by omega) ?_; conv => whnf)
          | (refine cmpF (by omega) ?_; conv => whnf)
          | fail)
      exact ⟨av_int (bad (fun hh => h hh.sen)).symm, rfl⟩
    rename_i h5
    refine cmpI (fun h6 => ?_) (fun h6 => ?_) <;> conv => whnf
    case refine_2 =>
      repeat' (first
          | (refine needI (by first | omega | (dsimp only; omega)) ?_; conv => whnf)
          | (refine arI trivial (by omega) ?_; conv => whnf)
          | (refine cmpT (by omega) ?_; conv => whnf)
          | (refine cmpF (by omega) ?_; conv => whnf)
          | fail)
      exact ⟨av_int (bad (fun h => h6 (by have := h.fal; omega))).symm, rfl⟩
    refine callD 5 (inClosF c.faulty _ (by omega)) rfl (fun _ => ?_) (fun _ => ?_) <;> (conv => whnf)
    case refine_2 =>
      rename_i h
      repeat' (first
          | (refine needI (by first | omega | (dsimp only; omega)) ?_; conv => whnf)
          | (refine arI trivial (by omega) ?_; conv => whnf)
          | (refine cmpT (by omega) ?_; conv => whnf)
          | (refine cmpF (by omega) ?_; conv => whnf)
          | fail)
      exact ⟨av_int (bad (fun hh => h (by have := hh.fau; rwa [hwl] at this))).symm, rfl⟩
    rename_i h7
    refine cmpI (fun h8 => ?_) (fun h8 => ?_) <;> conv => whnf
    case refine_2 =>
      repeat' (first
          | (refine needI (by first | omega | (dsimp only; omega)) ?_; conv => whnf)
          | (refine arI trivial (by omega) ?_; conv => whnf)
          | (refine cmpT (by omega) ?_; conv => whnf)
          | (refine cmpF (by omega) ?_; conv => whnf)
          | fail)
      exact ⟨av_int (bad (fun h => h8 h.va0)).symm, rfl⟩
    refine cmpI (fun h9 => ?_) (fun h9 => ?_) <;> conv => whnf
    case refine_2 =>
      repeat' (first
          | (refine needI (by first | omega | (dsimp only; omega)) ?_; conv => whnf)
          | (refine arI trivial (by omega) ?_; conv => whnf)
          | (refine cmpT (by omega) ?_; conv => whnf)
          | (refine cmpF (by omega) ?_; conv => whnf)
          | fail)
      exact ⟨av_int (bad (fun h => h9 (by have := h.va1; split <;> omega))).symm, rfl⟩
    have hva1 : c.value < 1 ∨ c.value < p.values.length := by split at h9 <;> omega
    repeat' (first
        | (refine needI (by first | omega | (dsimp only; omega)) ?_; conv => whnf)
        | (refine arI trivial (by omega) ?_; conv => whnf)
        | (refine cmpT (by omega) ?_; conv => whnf)
        | (refine cmpF (by omega) ?_; conv => whnf)
        | fail)
    refine cmpI (fun h10 => ?_) (fun h10 => ?_) <;> conv => whnf
  all_goals try first
    | exact ⟨av_int (bad (fun h => by have := h.tre ht; omega)).symm, rfl⟩
    | exact ⟨av_int (bad (fun h => by have := h.non ht; omega)).symm, rfl⟩
    | exact ⟨av_int (by rw [vcE, if_pos ⟨h1, h2, h3, by omega, h5, by omega, by rw [hwl]; exact h7, h8, hva1, fun h => absurd h ht, fun _ => by omega⟩]), rfl⟩
    | skip
  all_goals
    have hE := endsF c.shape (by omega)
    by_cases hsh : shp c.shape
    · rw [if_pos hsh] at hE
      (refine Spec.of_pure (n := 5) (hE) rfl ?_; rintro _ rfl; conv => whnf)
      refine needI (endsL_ne hsh) ?_
      conv => whnf
      exact ⟨av_int (by rw [vcE, if_pos ⟨h1, h2, h3, by omega, h5, by omega, by rw [hwl]; exact h7, h8, hva1, fun _ => ⟨h10, hsh⟩, fun h => absurd ht h⟩]), rfl⟩
    · rw [if_neg hsh] at hE
      (refine Spec.of_pure (n := 5) (hE) rfl ?_; rintro _ rfl; conv => whnf)
      exact ⟨av_int (bad (fun h => hsh (h.tre ht).2)).symm, rfl⟩
noncomputable def vconE (p : Pro) (s : Siz) (c : Cfg) : Int := if sizeE p s ≠ 0 then sizeE p s else vcE p s c
/-! ### the document's answer -/
theorem withinT (a b c : Int) : PSpec Tryz.prog 69 [.int .i64 a, .int .i64 b, .int .i64 c] (fun u => u = .bool (decide (b ≤ a ∧ a ≤ c))) := by
  refine PSpec.intro tt_ok mx_ok Tryz.func69 rfl (by decide) ?_; (conv => whnf)
  repeat' (first
      | (refine needI (by first | omega | (dsimp only; omega)) ?_; conv => whnf)
      | (refine arI trivial (by omega) ?_; conv => whnf)
      | (refine arU trivial (by omega) ?_; conv => whnf)
      | (refine arB trivial (by omega) ?_; conv => whnf)
      | (refine drawI (by decide +kernel) ?_; conv => whnf)
      | (refine drawR (by decide +kernel) ?_; conv => whnf)
      | (refine drawP (by decide +kernel) ?_; conv => whnf)
      | (refine boxP rfl ?_; conv => whnf)
      | (refine appI _ rfl (by first | omega | (dsimp only; omega) | (simp only [List.length_cons, List.length_nil, List.length_append]; omega)) ?_; conv => whnf)
      | (refine rowSetI _ rfl ?_; conv => whnf)
      | (refine cmpT (by omega) ?_; conv => whnf)
      | (refine cmpF (by omega) ?_; conv => whnf)
      | (refine cmpI (fun _ => ?_) (fun _ => ?_) <;> conv => whnf))
  all_goals first
    | exact ⟨dec_t (by omega), rfl⟩
    | exact ⟨dec_f (by omega), rfl⟩
theorem numbersR (l : List Int) (n : Int) (hl : l.length ≤ 1000) : PSpec Tryz.prog 130 [.sl 0 encI l, .int .i64 n] (fun u => u = .bool (decide ((l.length : Int) = n ∧ inR l 1048577))) := by
  refine PSpec.intro tt_ok mx_ok Tryz.func130 rfl (by decide) ?_; (conv => whnf)
  refine cmpI (fun h0 => ?_) (fun h0 => ?_) <;> conv => whnf
  · exact ⟨dec_f (fun h => h0 h.1), rfl⟩
  refine WPc.loopF tt_ok mx_ok (fun k : Nat => k ≤ l.length ∧ ∀ j, j < k → 0 ≤ l.getD j 0 ∧ l.getD j 0 < 1048577) (fun k => [(5, .int .i64 (k : Int))]) (fun _ => []) (fun k => l.length - k) 0 ⟨by omega, fun j hj => by omega⟩ ?_; conv => whnf
  refine ⟨(Sub.id_ 400 rfl auto_ auto_), ?_⟩
  rintro k ⟨hk, ha⟩
  conv => whnf
  refine cmpI (fun h1 => ?_) (fun h1 => ?_) <;> conv => whnf
  · refine needI (by omega) ?_
    rw [Int.toNat_natCast]
    conv => whnf
    refine Spec.dcall (n := 5) (withinT _ _ _) rfl (fun _ => ?_) (fun _ => ?_) <;> (conv => whnf)
    · rename_i h2
      repeat' (first
          | (refine needI (by first | omega | (dsimp only; omega)) ?_; conv => whnf)
          | (refine arI trivial (by omega) ?_; conv => whnf)
          | (refine cmpT (by omega) ?_; conv => whnf)
          | (refine cmpF (by omega) ?_; conv => whnf)
          | fail)
      refine ⟨k + 1, (Sub.id_ 400 rfl auto_ auto_), ⟨by omega, fun j hj => ?_⟩, by dsimp only; omega⟩
      by_cases e : j = k
      · subst e; omega
      · exact ha j (by omega)
    · rename_i h2
      exact ⟨dec_f (fun h => h2 (by have := h.2 k (by omega); omega)), rfl⟩
  · exact ⟨dec_t ⟨by omega, fun j hj => ha j (by omega)⟩, rfl⟩
theorem statesR (p : Pro) (l : List Int) (hl : l.length ≤ 1000) (hp : p.states.length ≤ 1000) : PSpec Tryz.prog 68 [.agg (encP p), .sl 0 encI l] (fun u => u = .bool (decide (inR l p.states.length))) := by
  refine PSpec.intro tt_ok mx_ok Tryz.func68 rfl (by decide) ?_; (conv => whnf)
  refine boxP rfl ?_
  conv => whnf
  refine WPc.loopF tt_ok mx_ok (fun k : Nat => k ≤ l.length ∧ ∀ j, j < k → 0 ≤ l.getD j 0 ∧ l.getD j 0 < p.states.length) (fun k => [(5, .int .i64 (k : Int))]) (fun _ => []) (fun k => l.length - k) 0 ⟨by omega, fun j hj => by omega⟩ ?_; conv => whnf
  refine ⟨(Sub.id_ 400 rfl auto_ auto_), ?_⟩
  rintro k ⟨hk, ha⟩
  conv => whnf
  refine cmpI (fun h1 => ?_) (fun h1 => ?_) <;> conv => whnf
  · refine drawI (by decide +kernel) ?_
    conv => whnf
    refine needI (by omega) ?_
    rw [Int.toNat_natCast]
    conv => whnf
    repeat' (first
        | (refine needI (by first | omega | (dsimp only; omega)) ?_; conv => whnf)
        | (refine arI trivial (by omega) ?_; conv => whnf)
        | (refine cmpT (by omega) ?_; conv => whnf)
        | (refine cmpF (by omega) ?_; conv => whnf)
        | fail)
    refine callD 5 (withinT _ _ _) rfl (fun _ => ?_) (fun _ => ?_) <;> (conv => whnf)
    · rename_i h2
      repeat' (first
          | (refine needI (by first | omega | (dsimp only; omega)) ?_; conv => whnf)
          | (refine arI trivial (by omega) ?_; conv => whnf)
          | (refine cmpT (by omega) ?_; conv => whnf)
          | (refine cmpF (by omega) ?_; conv => whnf)
          | fail)
      refine ⟨k + 1, (Sub.id_ 400 rfl auto_ auto_), ⟨by omega, fun j hj => ?_⟩, by dsimp only; omega⟩
      by_cases e : j = k
      · subst e; omega
      · exact ha j (by omega)
    · rename_i h2
      exact ⟨dec_f (fun h => h2 (by have := h k (by omega); omega)), rfl⟩
  · exact ⟨dec_t (fun j hj => ha j (by omega)), rfl⟩
theorem looseR (p : Pro) : PSpec Tryz.prog 131 [.agg (encP p)] (fun u => u = .bool (decide (p.fault = 1 ∨ p.fault = 2))) := by
  refine PSpec.intro tt_ok mx_ok Tryz.func131 rfl (by decide) ?_; (conv => whnf)
  refine boxP rfl ?_
  conv => whnf
  repeat' (first
      | (refine needI (by first | omega | (dsimp only; omega)) ?_; conv => whnf)
      | (refine arI trivial (by omega) ?_; conv => whnf)
      | (refine arU trivial (by omega) ?_; conv => whnf)
      | (refine arB trivial (by omega) ?_; conv => whnf)
      | (refine drawI (by decide +kernel) ?_; conv => whnf)
      | (refine drawR (by decide +kernel) ?_; conv => whnf)
      | (refine drawP (by decide +kernel) ?_; conv => whnf)
      | (refine boxP rfl ?_; conv => whnf)
      | (refine appI _ rfl (by first | omega | (dsimp only; omega) | (simp only [List.length_cons, List.length_nil, List.length_append]; omega)) ?_; conv => whnf)
      | (refine rowSetI _ rfl ?_; conv => whnf)
      | (refine cmpT (by omega) ?_; conv => whnf)
      | (refine cmpF (by omega) ?_; conv => whnf)
      | (refine cmpI (fun _ => ?_) (fun _ => ?_) <;> conv => whnf))
  all_goals first
    | exact ⟨dec_t (by omega), rfl⟩
    | exact ⟨dec_f (by omega), rfl⟩
theorem validConfigR (p : Pro) (s : Siz) (c : Cfg) (hp : ¬ bigP p) (hw : wideB c = false) (hs : 0 ≤ s.n ∧ s.n ≤ 1048576 ∧ 0 ≤ s.f ∧ s.f ≤ 1048576) : PSpec Tryz.prog 90 [.agg (encP p), .agg (encZ s), .agg (encC c)] (fun u => u = .bool (decide (VC p s c))) := by
  have hle := bigP_le hp
  have hc : c.shape.length ≤ 100 ∧ c.states.length ≤ 100 ∧ c.sent.length ≤ 100 ∧ c.faulty.length ≤ 100 := by
    unfold wideB at hw
    simp at hw
    omega
  have hwl : (whL p = 1048576 ∧ (p.fault = 1 ∨ p.fault = 2)) ∨ (whL p = 0 ∧ ¬ (p.fault = 1 ∨ p.fault = 2)) := by
    unfold whL
    by_cases h : p.fault = 1 ∨ p.fault = 2
    · rw [if_pos h]; exact .inl ⟨rfl, h⟩
    · rw [if_neg h]; exact .inr ⟨rfl, h⟩
  refine PSpec.intro tt_ok mx_ok Tryz.func90 rfl (by decide) ?_; (conv => whnf)
  refine boxP rfl ?_
  conv => whnf
  refine boxP rfl ?_
  conv => whnf
  refine boxP rfl ?_
  conv => whnf
  refine drawI (by decide +kernel) ?_
  conv => whnf
  (refine callPI 5 (modeledR p s hs) rfl ⟨_, rfl⟩ ?_; rintro _ rfl; conv => whnf)
  refine cmpI (fun h1 => ?_) (fun h1 => ?_) <;> conv => whnf
  · exact ⟨dec_f (fun h => h1 h.len), rfl⟩
  refine callD 5 (statesR p c.states (by omega) (by omega)) rfl (fun _ => ?_) (fun _ => ?_) <;> (conv => whnf)
  case refine_2 => rename_i h; exact ⟨dec_f (fun hh => h hh.sta), rfl⟩
  rename_i h2
  repeat' (first
      | (refine needI (by first | omega | (dsimp only; omega)) ?_; conv => whnf)
      | (refine arI trivial (by omega) ?_; conv => whnf)
      | (refine cmpT (by omega) ?_; conv => whnf)
      | (refine cmpF (by omega) ?_; conv => whnf)
      | fail)
  refine cmpI (fun h3 => ?_) (fun h3 => ?_) <;> conv => whnf
  · exact ⟨dec_f (fun h => h3 h.cor), rfl⟩
  refine callD 5 (numbersR c.sent _ (by omega)) rfl (fun _ => ?_) (fun _ => ?_) <;> (conv => whnf)
  case refine_2 => rename_i h; exact ⟨dec_f (fun hh => h ⟨by have := hh.snl; omega, hh.sen⟩), rfl⟩
  rename_i h4
  refine callD 5 (numbersR c.faulty _ (by omega)) rfl (fun _ => ?_) (fun _ => ?_) <;> (conv => whnf)
  case refine_2 =>
    rename_i h
    refine ⟨dec_f (fun hh => h ⟨by have := hh.fal; omega, fun j hj => ?_⟩), rfl⟩
    have := hh.fau j hj
    omega
  rename_i h5
  refine WPc.loopF tt_ok mx_ok (fun k : Nat => k ≤ c.faulty.length ∧ ∀ j, j < k → c.faulty.getD j 0 ≠ 0 → (p.fault = 1 ∨ p.fault = 2)) (fun k => [(7, .int .i64 (k : Int))]) (fun _ => []) (fun k => c.faulty.length - k) 0 ⟨by omega, fun j hj => by omega⟩ ?_; conv => whnf
  refine ⟨(Sub.id_ 400 rfl auto_ auto_), ?_⟩
  rintro k ⟨hk, ha⟩
  conv => whnf
  refine cmpI (fun h6 => ?_) (fun h6 => ?_) <;> conv => whnf
  · refine needI (by omega) ?_
    rw [Int.toNat_natCast]
    conv => whnf
    refine cmpI (fun h7 => ?_) (fun h7 => ?_) <;> conv => whnf
    · refine Spec.dcall (n := 5) (looseR p) rfl (fun _ => ?_) (fun _ => ?_) <;> (conv => whnf)
      · rename_i h8
        repeat' (first
            | (refine needI (by first | omega | (dsimp only; omega)) ?_; conv => whnf)
            | (refine arI trivial (by omega) ?_; conv => whnf)
            | (refine cmpT (by omega) ?_; conv => whnf)
            | (refine cmpF (by omega) ?_; conv => whnf)
            | fail)
        exact ⟨k + 1, (Sub.id_ 400 rfl auto_ auto_), ⟨by omega, fun j hj _ => h8⟩, by dsimp only; omega⟩
      · rename_i h8
        refine ⟨dec_f (fun hh => ?_), rfl⟩
        have h9 := hh.fau k (by omega)
        omega
    · repeat' (first
          | (refine needI (by first | omega | (dsimp only; omega)) ?_; conv => whnf)
          | (refine arI trivial (by omega) ?_; conv => whnf)
          | (refine cmpT (by omega) ?_; conv => whnf)
          | (refine cmpF (by omega) ?_; conv => whnf)
          | fail)
      refine ⟨k + 1, (Sub.id_ 400 rfl auto_ auto_), ⟨by omega, fun j hj h8 => ?_⟩, by dsimp only; omega⟩
      by_cases e : j = k
      · subst e; exact absurd h8 h7
      · exact ha j (by omega) h8
  have hfau : inR c.faulty (whL p + 1) := fun j hj => by
    have a1 := h5.2 j hj
    have a2 := ha j (by omega)
    omega
  repeat' (first
      | (refine needI (by first | omega | (dsimp only; omega)) ?_; conv => whnf)
      | (refine arI trivial (by omega) ?_; conv => whnf)
      | (refine cmpT (by omega) ?_; conv => whnf)
      | (refine cmpF (by omega) ?_; conv => whnf)
      | fail)
  refine Spec.dcall (n := 5) (withinT _ _ _) rfl (fun _ => ?_) (fun _ => ?_) <;> (conv => whnf)
  case refine_2 =>
    rename_i h
    refine ⟨dec_f (fun hh => h ⟨hh.va0, ?_⟩), rfl⟩
    have := hh.va1
    split <;> omega
  rename_i h9
  have hva1 : c.value < 1 ∨ c.value < p.values.length := by
    have := h9.2
    split at this <;> omega
  refine cmpI (fun ht => ?_) (fun ht => ?_) <;> conv => whnf
  · refine cmpI (fun h10 => ?_) (fun h10 => ?_) <;> conv => whnf
    · refine Spec.dcall (n := 5) (isShapeD c.shape (by omega)) rfl (fun _ => ?_) (fun _ => ?_) <;> (conv => whnf)
      · rename_i hsh
        exact ⟨dec_t ⟨by omega, h2, by omega, by omega, h4.2, by omega, hfau, h9.1, hva1, fun _ => ⟨h10, hsh⟩, fun h => absurd ht h⟩, rfl⟩
      · rename_i hsh
        exact ⟨dec_f (fun h => hsh (h.tre ht).2), rfl⟩
    · exact ⟨dec_f (fun h => h10 (h.tre ht).1), rfl⟩
  · refine cmpI (fun h10 => ?_) (fun h10 => ?_) <;> conv => whnf
    · exact ⟨dec_t ⟨by omega, h2, by omega, by omega, h4.2, by omega, hfau, h9.1, hva1, fun h => absurd h ht, fun _ => by omega⟩, rfl⟩
    · exact ⟨dec_f (fun h => h10 (by have := h.non ht; omega)), rfl⟩
theorem ValidConfigR (p : Pro) (s : Siz) (c : Cfg) (hp : ¬ bigP p) (hw : wideB c = false) : PSpec Tryz.prog 134 [.agg (encP p), .agg (encZ s), .agg (encC c)] (fun u => u = .int .i64 (vconE p s c)) := by
  refine PSpec.intro tt_ok mx_ok Tryz.func134 rfl (by decide) ?_; (conv => whnf)
  refine boxP rfl ?_
  conv => whnf
  refine boxP rfl ?_
  conv => whnf
  refine boxP rfl ?_
  conv => whnf
  (refine Spec.of_pure (n := 5) (sizedR p s hp) rfl ?_; rintro _ rfl; conv => whnf)
  refine cmpI (fun h1 => ?_) (fun h1 => ?_) <;> conv => whnf
  · exact ⟨av_int (by rw [vconE, if_pos h1]), rfl⟩
  · have := sizeE_ok (p := p) (s := s) (by omega)
    refine Spec.dcall (n := 5) (validConfigR p s c hp hw (by omega)) rfl (fun _ => ?_) (fun _ => ?_) <;> (conv => whnf)
    · rename_i h; exact ⟨av_int (by rw [vconE, if_neg h1, vcE, if_pos h]), rfl⟩
    · rename_i h; exact ⟨av_int (by rw [vconE, if_neg h1, vcE, if_neg h]), rfl⟩
theorem copyIntsR (l : List Int) (hl : l.length ≤ 1000000) : PSpec Tryz.prog 117 [.sl 0 encI l] (fun u => u = .sl 0 encI l) := by
  refine PSpec.intro tt_ok mx_ok Tryz.func117 rfl (by decide) ?_; (conv => whnf)
  refine bldI 0 encI [] rfl ?_
  conv => whnf
  refine appI _ rfl (by simp only [List.length_nil]; omega) ?_
  conv => whnf
  exact ⟨rfl, rfl⟩
theorem copyR (c : Cfg) (hw : wideB c = false) : PSpec Tryz.prog 72 [.agg (encC c)] (fun u => u = .agg (encC c)) := by
  have hc : c.shape.length ≤ 100 ∧ c.states.length ≤ 100 ∧ c.sent.length ≤ 100 ∧ c.faulty.length ≤ 100 := by
    unfold wideB at hw
    simp at hw
    omega
  refine PSpec.intro tt_ok mx_ok Tryz.func72 rfl (by decide) ?_; (conv => whnf)
  refine boxP rfl ?_
  conv => whnf
  refine drawP (by decide +kernel) ?_
  conv => whnf
  (refine callPI 5 (copyIntsR c.shape (by omega)) rfl ⟨_, rfl⟩ ?_; rintro _ rfl; conv => whnf)
  (refine callPI 5 (copyIntsR c.states (by omega)) rfl ⟨_, rfl⟩ ?_; rintro _ rfl; conv => whnf)
  (refine callPI 5 (copyIntsR c.sent (by omega)) rfl ⟨_, rfl⟩ ?_; rintro _ rfl; conv => whnf)
  (refine callPI 5 (copyIntsR c.faulty (by omega)) rfl ⟨_, rfl⟩ ?_; rintro _ rfl; conv => whnf)
  exact ⟨rfl, rfl⟩
def encAt (p : Pro) (s : Siz) (c : Cfg) : List AV := encP p ++ (encZ s ++ encC c)
end Go.Proofs.YtcbckmnbdcjeeaaGreatDoor
