
/-
  Validate: the first error of a family, by the program and by the document's answer.
-/
import Derived.Test.YtcbckmnbdcjeeaaGreatDoorFnU
set_option linter.unusedVariables false
set_option linter.unusedSimpArgs false
namespace Go.Proofs.YtcbckmnbdcjeeaaGreatDoor
set_option maxRecDepth 100000
set_option maxHeartbeats 8000000

def rulesE (p : Pro) : Int := orL ((List.range p.rules.length).map fun i => ruleE p i (p.rules.getD i rul0))
def resB (p : Pro) : Prop := ∀ j, j < p.resilience.length → bndB (p.resilience.getD j lin0)
instance (p : Pro) : Decidable (resB p) := inferInstanceAs (Decidable (∀ j, j < p.resilience.length → _))
def tailE (p : Pro) : Int := orL [setE p.initial p.states.length, (if p.initial.length = 0 then 1 else 0), setE p.leader p.states.length, rulesE p, (if 3 < (thrL p.rules).length then 4 else 0)]
def validE (p : Pro) : Int :=
  if ¬ validN p.name then 2 else if p.topology < 1 ∨ 4 < p.topology ∨ p.fault < 0 ∨ 3 < p.fault then 1 else if p.states.length = 0 then 1
  else if 6 < p.states.length ∨ 3 < p.messages.length ∨ 3 < p.values.length ∨ 4 < p.resilience.length ∨ 8 < p.rules.length then 4
  else if ¬ nmsB (allN p) then 2
  else if (p.topology ≠ 1 ∧ (0 < p.messages.length ∨ 0 < p.values.length ∨ 0 < p.resilience.length ∨ p.fault ≠ 0)) ∨ (p.topology = 1 ∧ 0 < p.leader.length) then 1
  else if ¬ resB p then 4 else tailE p
theorem range_getD {n k : Nat} (h : k < n) : (List.range n).getD k 0 = k := by
  rw [List.getD_eq_getElem?_getD, List.getElem?_range h]; rfl

theorem validateF (p : Pro) (hp : ¬ bigP p) : PSpec Tryz.prog 27 [.agg (encP p)] (fun u => u = .int .i64 (validE p)) := by
  have hle := bigP_le hp
  have he := validE.eq_1 p
  refine PSpec.intro tt_ok mx_ok Tryz.func27 rfl (by decide) ?_; (conv => whnf)
  refine boxP rfl ?_
  conv => whnf
  refine cmpI (fun ht => ?_) (fun ht => ?_) <;> conv => whnf
  all_goals
    refine Spec.dcall (n := 5) (validNameP p.name (by omega)) rfl (fun _ => ?_) (fun _ => ?_) <;> (conv => whnf)
    case refine_2 => rename_i hv; rw [if_pos hv] at he; exact ⟨av_int he.symm, rfl⟩
    rename_i hv
    rw [if_neg (fun h => h hv)] at he
    by_cases hA : p.topology < 1 ∨ 4 < p.topology ∨ p.fault < 0 ∨ 3 < p.fault
    · rw [if_pos hA] at he
      repeat' (first
          | (refine needI (by first | omega | (dsimp only; omega)) ?_; conv => whnf)
          | (refine arI trivial (by omega) ?_; conv => whnf)
          | (refine arU trivial (by omega) ?_; conv => whnf)
          | (refine arB trivial (by omega) ?_; conv => whnf)
          | (refine drawI (by decide +kernel) ?_; conv => whnf)
          | (refine drawR (by decide +kernel) ?_; conv => whnf)
          | (refine drawP (by decide +kernel) ?_; conv => whnf)
          | (refine boxP rfl ?_; conv => whnf)
          | (refine appI _ rfl (by first | omega | (dsimp only; omega) | (simp only [List.length_cons, List.length_nil, List.length_append]; omega)) ?_; conv => whnf)
          | (refine rowSetI _ rfl ?_; conv => whnf)
          | (refine cmpT (by omega) ?_; conv => whnf)
          | (refine cmpF (by omega) ?_; conv => whnf)
          | (refine cmpI (fun _ => ?_) (fun _ => ?_) <;> conv => whnf))
      all_goals exact ⟨av_int he.symm, rfl⟩
    rw [if_neg hA] at he
    by_cases h0 : p.states.length = 0
    · rw [if_pos h0] at he
      repeat' (first
          | (refine needI (by first | omega | (dsimp only; omega)) ?_; conv => whnf)
          | (refine arI trivial (by omega) ?_; conv => whnf)
          | (refine cmpT (by omega) ?_; conv => whnf)
          | (refine cmpF (by omega) ?_; conv => whnf)
          | fail)
      exact ⟨av_int he.symm, rfl⟩
    rw [if_neg h0] at he
    by_cases hB : 6 < p.states.length ∨ 3 < p.messages.length ∨ 3 < p.values.length ∨ 4 < p.resilience.length ∨ 8 < p.rules.length
    · rw [if_pos hB] at he
      repeat' (first
          | (refine needI (by first | omega | (dsimp only; omega)) ?_; conv => whnf)
          | (refine arI trivial (by omega) ?_; conv => whnf)
          | (refine arU trivial (by omega) ?_; conv => whnf)
          | (refine arB trivial (by omega) ?_; conv => whnf)
          | (refine drawI (by decide +kernel) ?_; conv => whnf)
          | (refine drawR (by decide +kernel) ?_; conv => whnf)
          | (refine drawP (by decide +kernel) ?_; conv => whnf)
          | (refine boxP rfl ?_; conv => whnf)
          | (refine appI _ rfl (by first | omega | (dsimp only; omega) | (simp only [List.length_cons, List.length_nil, List.length_append]; omega)) ?_; conv => whnf)
          | (refine rowSetI _ rfl ?_; conv => whnf)
          | (refine cmpT (by omega) ?_; conv => whnf)
          | (refine cmpF (by omega) ?_; conv => whnf)
          | (refine cmpI (fun _ => ?_) (fun _ => ?_) <;> conv => whnf))
      all_goals exact ⟨av_int he.symm, rfl⟩
    rw [if_neg hB] at he
    repeat' (first
        | (refine needI (by first | omega | (dsimp only; omega)) ?_; conv => whnf)
        | (refine arI trivial (by omega) ?_; conv => whnf)
        | (refine cmpT (by omega) ?_; conv => whnf)
        | (refine cmpF (by omega) ?_; conv => whnf)
        | fail)
    (refine Spec.of_pure (n := 5) (namesF p hp (by omega)) rfl ?_; rintro _ rfl; conv => whnf)
    by_cases hN : nmsB (allN p)
    case neg =>
      rw [if_pos hN] at he
      rw [if_neg hN]
      repeat' (first
          | (refine needI (by first | omega | (dsimp only; omega)) ?_; conv => whnf)
          | (refine arI trivial (by omega) ?_; conv => whnf)
          | (refine cmpT (by omega) ?_; conv => whnf)
          | (refine cmpF (by omega) ?_; conv => whnf)
          | fail)
      exact ⟨av_int he.symm, rfl⟩
    rw [if_neg (fun h => h hN)] at he
    rw [if_pos hN]
    by_cases hC : (p.topology ≠ 1 ∧ (0 < p.messages.length ∨ 0 < p.values.length ∨ 0 < p.resilience.length ∨ p.fault ≠ 0)) ∨ (p.topology = 1 ∧ 0 < p.leader.length)
    · rw [if_pos hC] at he
      repeat' (first
          | (refine needI (by first | omega | (dsimp only; omega)) ?_; conv => whnf)
          | (refine arI trivial (by omega) ?_; conv => whnf)
          | (refine arU trivial (by omega) ?_; conv => whnf)
          | (refine arB trivial (by omega) ?_; conv => whnf)
          | (refine drawI (by decide +kernel) ?_; conv => whnf)
          | (refine drawR (by decide +kernel) ?_; conv => whnf)
          | (refine drawP (by decide +kernel) ?_; conv => whnf)
          | (refine boxP rfl ?_; conv => whnf)
          | (refine appI _ rfl (by first | omega | (dsimp only; omega) | (simp only [List.length_cons, List.length_nil, List.length_append]; omega)) ?_; conv => whnf)
          | (refine rowSetI _ rfl ?_; conv => whnf)
          | (refine cmpT (by omega) ?_; conv => whnf)
          | (refine cmpF (by omega) ?_; conv => whnf)
          | (refine cmpI (fun _ => ?_) (fun _ => ?_) <;> conv => whnf))
      all_goals exact ⟨av_int he.symm, rfl⟩
    rw [if_neg hC] at he
    repeat' (first
        | (refine needI (by first | omega | (dsimp only; omega)) ?_; conv => whnf)
        | (refine arI trivial (by omega) ?_; conv => whnf)
        | (refine cmpT (by omega) ?_; conv => whnf)
        | (refine cmpF (by omega) ?_; conv => whnf)
        | fail)
    refine WPc.loopF tt_ok mx_ok (fun k : Nat => k ≤ p.resilience.length ∧ ∀ j, j < k → bndB (p.resilience.getD j lin0)) (fun k => [(113, .int .i64 (k : Int))]) (fun _ => []) (fun k => p.resilience.length - k) 0 ⟨by omega, fun j hj => by omega⟩ ?_; conv => whnf
    refine ⟨(Sub.id_ 400 rfl auto_ auto_), ?_⟩
    rintro k ⟨hk, ha⟩
    conv => whnf
    refine cmpI (fun h1 => ?_) (fun h1 => ?_) <;> conv => whnf
    · refine needI (by omega) ?_
      rw [Int.toNat_natCast]
      conv => whnf
      refine Spec.dcall (n := 5) (boundedF (p.resilience.getD k lin0)) rfl (fun _ => ?_) (fun _ => ?_) <;> (conv => whnf)
      · rename_i hb
        repeat' (first
            | (refine needI (by first | omega | (dsimp only; omega)) ?_; conv => whnf)
            | (refine arI trivial (by omega) ?_; conv => whnf)
            | (refine cmpT (by omega) ?_; conv => whnf)
            | (refine cmpF (by omega) ?_; conv => whnf)
            | fail)
        refine ⟨k + 1, (Sub.id_ 400 rfl auto_ auto_), ⟨by omega, fun j hj => ?_⟩, by dsimp only; omega⟩
        by_cases e : j = k
        · subst e; exact hb
        · exact ha j (by omega)
      · rename_i hb
        rw [if_pos (fun h : resB p => hb (h k (by omega)))] at he
        exact ⟨av_int he.symm, rfl⟩
    rw [if_neg (fun h => h (show resB p from fun j hj => ha j (by omega))), tailE] at he
    refine drawI (by decide +kernel) ?_
    conv => whnf
    (refine callPI 5 (setP p.initial _ (by omega)) rfl ⟨_, rfl⟩ ?_; rintro _ rfl; conv => whnf)
    have hf : ∀ x : Int, x = (if p.initial.length = 0 then 1 else 0) → validE p = if orL [setE p.initial p.states.length, x, setE p.leader p.states.length] ≠ 0 then orL [setE p.initial p.states.length, x, setE p.leader p.states.length] else orL [rulesE p, (if 3 < (thrL p.rules).length then 4 else 0)] := by
      rintro x rfl
      rw [he, show [setE p.initial p.states.length, (if p.initial.length = 0 then (1 : Int) else 0), setE p.leader p.states.length, rulesE p, (if 3 < (thrL p.rules).length then 4 else 0)] = [setE p.initial p.states.length, (if p.initial.length = 0 then (1 : Int) else 0), setE p.leader p.states.length] ++ [rulesE p, (if 3 < (thrL p.rules).length then 4 else 0)] from rfl, orL_app2]
    clear he
    by_cases hI : p.initial.length = 0
    · have hx := hf 1 (by rw [if_pos hI])
      repeat' (first
          | (refine needI (by first | omega | (dsimp only; omega)) ?_; conv => whnf)
          | (refine arI trivial (by omega) ?_; conv => whnf)
          | (refine cmpT (by omega) ?_; conv => whnf)
          | (refine cmpF (by omega) ?_; conv => whnf)
          | fail)
      (refine callPI 5 (whenT 1) rfl ⟨_, rfl⟩ ?_; rintro _ rfl; conv => whnf)
      (refine callPI 5 (setP p.leader _ (by omega)) rfl ⟨_, rfl⟩ ?_; rintro _ rfl; conv => whnf)
      refine leakY ?_
      conv => whnf
      (refine callPI 5 (firstF _ (by simp)) rfl ⟨_, rfl⟩ ?_; rintro _ rfl; conv => whnf)
      refine cmpI (fun h1 => ?_) (fun h1 => ?_) <;> conv => whnf
      · rw [if_pos h1] at hx; exact ⟨av_int hx.symm, rfl⟩
      · exfalso
        apply h1
        simp only [orL]
        (repeat' split) <;> omega
    have hx := hf 0 (by rw [if_neg hI])
    repeat' (first
        | (refine needI (by first | omega | (dsimp only; omega)) ?_; conv => whnf)
        | (refine arI trivial (by omega) ?_; conv => whnf)
        | (refine cmpT (by omega) ?_; conv => whnf)
        | (refine cmpF (by omega) ?_; conv => whnf)
        | fail)
    (refine callPI 5 (whenF 1) rfl ⟨_, rfl⟩ ?_; rintro _ rfl; conv => whnf)
    (refine callPI 5 (setP p.leader _ (by omega)) rfl ⟨_, rfl⟩ ?_; rintro _ rfl; conv => whnf)
    refine leakY ?_
    conv => whnf
    (refine callPI 5 (firstF _ (by simp)) rfl ⟨_, rfl⟩ ?_; rintro _ rfl; conv => whnf)
    refine cmpI (fun h1 => ?_) (fun h1 => ?_) <;> conv => whnf
    · rw [if_pos h1] at hx; exact ⟨av_int hx.symm, rfl⟩
    rw [if_neg h1] at hx
    refine WPc.loopF tt_ok mx_ok (fun k : Nat => k ≤ p.rules.length ∧ rulesE p = orL (((List.range p.rules.length).drop k).map fun i => ruleE p i (p.rules.getD i rul0))) (fun k => [(142, .int .i64 (k : Int))]) (fun _ => []) (fun k => p.rules.length - k) 0 ⟨by omega, rfl⟩ ?_; conv => whnf
    refine ⟨(Sub.id_ 400 rfl auto_ auto_), ?_⟩
    rintro k ⟨hk, hr⟩
    conv => whnf
    refine cmpI (fun h2 => ?_) (fun h2 => ?_) <;> conv => whnf
    · rw [orL_map_drop _ 0 (by simp; omega), range_getD (by omega)] at hr
      (refine Spec.of_pure (n := 5) (ruleErrorF p k hp (by omega)) rfl ?_; rintro _ rfl; conv => whnf)
      refine cmpI (fun h3 => ?_) (fun h3 => ?_) <;> conv => whnf
      · rw [if_pos h3] at hr
        rw [hr, orL_nz h3] at hx
        exact ⟨av_int hx.symm, rfl⟩
      · rw [if_neg h3] at hr
        repeat' (first
            | (refine needI (by first | omega | (dsimp only; omega)) ?_; conv => whnf)
            | (refine arI trivial (by omega) ?_; conv => whnf)
            | (refine cmpT (by omega) ?_; conv => whnf)
            | (refine cmpF (by omega) ?_; conv => whnf)
            | fail)
        exact ⟨k + 1, (Sub.id_ 400 rfl auto_ auto_), ⟨by omega, hr⟩, by dsimp only; omega⟩
    obtain rfl : k = p.rules.length := by omega
    rw [List.drop_of_length_le (by simp)] at hr
    rw [orL_z hr] at hx
    (refine Spec.of_pure (n := 5) (thresholdsF p hp) rfl ?_; rintro _ rfl; conv => whnf)
    refine cmpI (fun h3 => ?_) (fun h3 => ?_) <;> conv => whnf
    · rw [if_pos (by omega)] at hx
      (refine Spec.of_pure (n := 5) (whenT 4) rfl ?_; rintro _ rfl; conv => whnf)
      exact ⟨av_int hx.symm, rfl⟩
    · rw [if_neg (by omega)] at hx
      (refine Spec.of_pure (n := 5) (whenF 4) rfl ?_; rintro _ rfl; conv => whnf)
      exact ⟨av_int hx.symm, rfl⟩

theorem validateR (p : Pro) (hp : ¬ bigP p) : PSpec Tryz.prog 30 [.agg (encP p)] (fun u => u = .int .i64 (validE p)) := by
  have hle := bigP_le hp
  have he := validE.eq_1 p
  have hsz := allN_size hp
  have hlen : (allN p).length = p.states.length + p.messages.length + p.values.length := by simp [allN]; omega
  refine PSpec.intro tt_ok mx_ok Tryz.func30 rfl (by decide) ?_; (conv => whnf)
  refine boxP rfl ?_
  conv => whnf
  refine Spec.dcall (n := 5) (validNameR p.name (by omega)) rfl (fun _ => ?_) (fun _ => ?_) <;> (conv => whnf)
  case refine_2 => rename_i hv; rw [if_pos hv] at he; exact ⟨av_int he.symm, rfl⟩
  rename_i hv
  rw [if_neg (fun h => h hv)] at he
  refine Spec.dcall (n := 5) (withinR _ _ _) rfl (fun _ => ?_) (fun _ => ?_) <;> (conv => whnf)
  case refine_2 => rename_i h; rw [if_pos (by omega)] at he; exact ⟨av_int he.symm, rfl⟩
  rename_i hA1
  refine Spec.dcall (n := 5) (withinR _ _ _) rfl (fun _ => ?_) (fun _ => ?_) <;> (conv => whnf)
  case refine_2 => rename_i h; rw [if_pos (by omega)] at he; exact ⟨av_int he.symm, rfl⟩
  rename_i hA2
  rw [if_neg (by omega)] at he
  by_cases h0 : p.states.length = 0
  · rw [if_pos h0] at he
    repeat' (first
        | (refine needI (by first | omega | (dsimp only; omega)) ?_; conv => whnf)
        | (refine arI trivial (by omega) ?_; conv => whnf)
        | (refine cmpT (by omega) ?_; conv => whnf)
        | (refine cmpF (by omega) ?_; conv => whnf)
        | fail)
    exact ⟨av_int he.symm, rfl⟩
  rw [if_neg h0] at he
  by_cases hB : 6 < p.states.length ∨ 3 < p.messages.length ∨ 3 < p.values.length ∨ 4 < p.resilience.length ∨ 8 < p.rules.length
  · rw [if_pos hB] at he
    repeat' (first
        | (refine needI (by first | omega | (dsimp only; omega)) ?_; conv => whnf)
        | (refine arI trivial (by omega) ?_; conv => whnf)
        | (refine arU trivial (by omega) ?_; conv => whnf)
        | (refine arB trivial (by omega) ?_; conv => whnf)
        | (refine drawI (by decide +kernel) ?_; conv => whnf)
        | (refine drawR (by decide +kernel) ?_; conv => whnf)
        | (refine drawP (by decide +kernel) ?_; conv => whnf)
        | (refine boxP rfl ?_; conv => whnf)
        | (refine appI _ rfl (by first | omega | (dsimp only; omega) | (simp only [List.length_cons, List.length_nil, List.length_append]; omega)) ?_; conv => whnf)
        | (refine rowSetI _ rfl ?_; conv => whnf)
        | (refine cmpT (by omega) ?_; conv => whnf)
        | (refine cmpF (by omega) ?_; conv => whnf)
        | (refine cmpI (fun _ => ?_) (fun _ => ?_) <;> conv => whnf))
    all_goals exact ⟨av_int he.symm, rfl⟩
  rw [if_neg hB] at he
  repeat' (first
      | (refine needI (by first | omega | (dsimp only; omega)) ?_; conv => whnf)
      | (refine arI trivial (by omega) ?_; conv => whnf)
      | (refine cmpT (by omega) ?_; conv => whnf)
      | (refine cmpF (by omega) ?_; conv => whnf)
      | fail)
  refine drawP (by decide +kernel) ?_
  conv => whnf
  refine bldI t0 encT [] rfl ?_
  conv => whnf
  refine leakN ?_
  conv => whnf
  refine appI _ rfl (by dsimp only; simp only [List.length_nil]; omega) ?_
  conv => whnf
  refine appI _ rfl (by simp only [List.length_append, List.length_nil]; omega) ?_
  conv => whnf
  refine appI _ rfl (by simp only [List.length_append, List.length_nil]; omega) ?_
  conv => whnf
  refine WPc.loopF tt_ok mx_ok (fun i : Nat => i ≤ (allN p).length ∧ ∀ j, j < i → validN ((allN p).getD j t0) ∧ (allN p).getD j t0 ∉ (allN p).take j) (fun i => [(4, .int .i64 (i : Int)), (3, .sl t0 encT (allN p)), (56, .top), (59, .top), (62, .top), (65, .top)]) (fun _ => []) (fun i => (allN p).length - i) 0 ⟨by omega, fun j hj => by omega⟩ ?_; conv => whnf
  refine ⟨Sub.leak 65 rfl (Sub.by_ [] [] 400 rfl trivial (auto_)), ?_⟩
  rintro i ⟨hi, ha⟩
  conv => whnf
  refine cmpI (fun h1 => ?_) (fun h1 => ?_) <;> conv => whnf
  · refine drawI (by decide +kernel) ?_
    conv => whnf
    refine needI (by omega) ?_
    rw [Int.toNat_natCast]
    conv => whnf
    refine callD 5 (validNameR _ (by have := hsz i; omega)) rfl (fun _ => ?_) (fun _ => ?_) <;> (conv => whnf)
    · rename_i hv
      refine needI (by omega) ?_
      rw [Int.toNat_natCast]
      conv => whnf
      refine needI (by omega) ?_
      rw [Int.toNat_natCast]
      conv => whnf
      refine callD 5 (hasTextR _ _ (by simp; omega)) rfl (fun _ => ?_) (fun _ => ?_) <;> (conv => whnf)
      · rename_i hm
        rw [if_pos (fun h : nmsB (allN p) => (h i (by omega)).2 hm)] at he
        exact ⟨av_int he.symm, rfl⟩
      · rename_i hm
        repeat' (first
            | (refine needI (by first | omega | (dsimp only; omega)) ?_; conv => whnf)
            | (refine arI trivial (by omega) ?_; conv => whnf)
            | (refine cmpT (by omega) ?_; conv => whnf)
            | (refine cmpF (by omega) ?_; conv => whnf)
            | fail)
        refine ⟨i + 1, (Sub.id_ 400 rfl auto_ auto_), ⟨by omega, fun j hj => ?_⟩, by dsimp only; omega⟩
        by_cases e : j = i
        · subst e; exact ⟨hv, hm⟩
        · exact ha j (by omega)
    · rename_i hv
      rw [if_pos (fun h : nmsB (allN p) => hv (h i (by omega)).1)] at he
      exact ⟨av_int he.symm, rfl⟩
  rw [if_neg (fun h => h (show nmsB (allN p) from fun j hj => ha j (by omega)))] at he
  by_cases hC : (p.topology ≠ 1 ∧ (0 < p.messages.length ∨ 0 < p.values.length ∨ 0 < p.resilience.length ∨ p.fault ≠ 0)) ∨ (p.topology = 1 ∧ 0 < p.leader.length)
  · rw [if_pos hC] at he
    repeat' (first
        | (refine needI (by first | omega | (dsimp only; omega)) ?_; conv => whnf)
        | (refine arI trivial (by omega) ?_; conv => whnf)
        | (refine arU trivial (by omega) ?_; conv => whnf)
        | (refine arB trivial (by omega) ?_; conv => whnf)
        | (refine drawI (by decide +kernel) ?_; conv => whnf)
        | (refine drawR (by decide +kernel) ?_; conv => whnf)
        | (refine drawP (by decide +kernel) ?_; conv => whnf)
        | (refine boxP rfl ?_; conv => whnf)
        | (refine appI _ rfl (by first | omega | (dsimp only; omega) | (simp only [List.length_cons, List.length_nil, List.length_append]; omega)) ?_; conv => whnf)
        | (refine rowSetI _ rfl ?_; conv => whnf)
        | (refine cmpT (by omega) ?_; conv => whnf)
        | (refine cmpF (by omega) ?_; conv => whnf)
        | (refine cmpI (fun _ => ?_) (fun _ => ?_) <;> conv => whnf))
    all_goals exact ⟨av_int he.symm, rfl⟩
  rw [if_neg hC] at he
  refine cmpI (fun ht => ?_) (fun ht => ?_) <;> conv => whnf
  all_goals
    repeat' (first
        | (refine needI (by first | omega | (dsimp only; omega)) ?_; conv => whnf)
        | (refine arI trivial (by omega) ?_; conv => whnf)
        | (refine cmpT (by omega) ?_; conv => whnf)
        | (refine cmpF (by omega) ?_; conv => whnf)
        | fail)
    refine WPc.loopF tt_ok mx_ok (fun k : Nat => k ≤ p.resilience.length ∧ ∀ j, j < k → bndB (p.resilience.getD j lin0)) (fun k => [(5, .int .i64 (k : Int))]) (fun _ => []) (fun k => p.resilience.length - k) 0 ⟨by omega, fun j hj => by omega⟩ ?_; conv => whnf
    refine ⟨(Sub.id_ 400 rfl auto_ auto_), ?_⟩
    rintro k ⟨hk, ha⟩
    conv => whnf
    refine cmpI (fun h1 => ?_) (fun h1 => ?_) <;> conv => whnf
    · refine needI (by omega) ?_
      rw [Int.toNat_natCast]
      conv => whnf
      refine Spec.dcall (n := 5) (fewR (p.resilience.getD k lin0)) rfl (fun _ => ?_) (fun _ => ?_) <;> (conv => whnf)
      · rename_i hb
        repeat' (first
            | (refine needI (by first | omega | (dsimp only; omega)) ?_; conv => whnf)
            | (refine arI trivial (by omega) ?_; conv => whnf)
            | (refine cmpT (by omega) ?_; conv => whnf)
            | (refine cmpF (by omega) ?_; conv => whnf)
            | fail)
        refine ⟨k + 1, (Sub.id_ 400 rfl auto_ auto_), ⟨by omega, fun j hj => ?_⟩, by dsimp only; omega⟩
        by_cases e : j = k
        · subst e; exact hb
        · exact ha j (by omega)
      · rename_i hb
        rw [if_pos (fun h : resB p => hb (h k (by omega)))] at he
        exact ⟨av_int he.symm, rfl⟩
    rw [if_neg (fun h => h (show resB p from fun j hj => ha j (by omega))), tailE] at he
    (refine Spec.of_pure (n := 5) (setR p.initial _ (by omega) (by omega)) rfl ?_; rintro _ rfl; conv => whnf)
    refine cmpI (fun hx => ?_) (fun hx => ?_) <;> conv => whnf
    · exact ⟨av_int (by rw [he, orL_nz hx]), rfl⟩
    rw [orL_z (by omega)] at he
    refine cmpI (fun hx => ?_) (fun hx => ?_) <;> conv => whnf
    · exact ⟨av_int (by rw [he, if_pos (by omega), orL_nz (by decide)]), rfl⟩
    rw [if_neg (by omega), orL_z rfl] at he
    (refine Spec.of_pure (n := 5) (setR p.leader _ (by omega) (by omega)) rfl ?_; rintro _ rfl; conv => whnf)
    refine cmpI (fun hx => ?_) (fun hx => ?_) <;> conv => whnf
    · exact ⟨av_int (by rw [he, orL_nz hx]), rfl⟩
    rw [orL_z (by omega)] at he
    refine WPc.loopF tt_ok mx_ok (fun k : Nat => k ≤ p.rules.length ∧ rulesE p = orL (((List.range p.rules.length).drop k).map fun i => ruleE p i (p.rules.getD i rul0))) (fun k => [(8, .int .i64 (k : Int))]) (fun _ => []) (fun k => p.rules.length - k) 0 ⟨by omega, rfl⟩ ?_; conv => whnf
    refine ⟨(Sub.id_ 400 rfl auto_ auto_), ?_⟩
    rintro k ⟨hk, hr⟩
    conv => whnf
    refine cmpI (fun h2 => ?_) (fun h2 => ?_) <;> conv => whnf
    · rw [orL_map_drop _ 0 (by simp; omega), range_getD (by omega)] at hr
      (refine Spec.of_pure (n := 5) (ruleR p k hp (by omega)) rfl ?_; rintro _ rfl; conv => whnf)
      refine cmpI (fun h3 => ?_) (fun h3 => ?_) <;> conv => whnf
      · rw [if_pos h3] at hr
        rw [hr, orL_nz h3] at he
        exact ⟨av_int he.symm, rfl⟩
      · rw [if_neg h3] at hr
        repeat' (first
            | (refine needI (by first | omega | (dsimp only; omega)) ?_; conv => whnf)
            | (refine arI trivial (by omega) ?_; conv => whnf)
            | (refine cmpT (by omega) ?_; conv => whnf)
            | (refine cmpF (by omega) ?_; conv => whnf)
            | fail)
        exact ⟨k + 1, (Sub.id_ 400 rfl auto_ auto_), ⟨by omega, hr⟩, by dsimp only; omega⟩
    obtain rfl : k = p.rules.length := by omega
    rw [List.drop_of_length_le (by simp)] at hr
    rw [orL_z hr] at he
    (refine Spec.of_pure (n := 5) (distinctR p hp) rfl ?_; rintro _ rfl; conv => whnf)
    refine cmpI (fun h3 => ?_) (fun h3 => ?_) <;> conv => whnf
    · rw [if_pos (by omega)] at he
      exact ⟨av_int he.symm, rfl⟩
    · rw [if_neg (by omega)] at he
      exact ⟨av_int he.symm, rfl⟩
end Go.Proofs.YtcbckmnbdcjeeaaGreatDoor
