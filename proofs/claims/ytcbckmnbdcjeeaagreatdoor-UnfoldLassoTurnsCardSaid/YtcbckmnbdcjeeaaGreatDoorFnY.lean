
/-
  Properties: the first error of a property, by the program and by the document's answer.
-/
import Derived.Test.YtcbckmnbdcjeeaaGreatDoorFnX
set_option linter.unusedVariables false
set_option linter.unusedSimpArgs false
namespace Go.Proofs.YtcbckmnbdcjeeaaGreatDoor
set_option maxRecDepth 100000
set_option maxHeartbeats 8000000

structure Cnt where
  states : List Int
  least : Int
structure Prp where
  name : ByteArray
  kind : Int
  start : List Int
  bad : List Cnt
  adjacent : List Int
  goal : List Int
def cnt0 : Cnt := ⟨[], 0⟩
def encCnt (c : Cnt) : List AV := [.sl 0 encI c.states, .int .i64 c.least]
def encQ (q : Prp) : List AV := [.str q.name, .int .i64 q.kind, .sl 0 encI q.start, .sl cnt0 encCnt q.bad, .sl 0 encI q.adjacent, .sl 0 encI q.goal]
def bigQ (q : Prp) : Prop := 500 < q.name.size ∨ 60 < q.start.length ∨ 60 < q.bad.length ∨ 60 < q.adjacent.length ∨ 60 < q.goal.length ∨ ∃ j, j < q.bad.length ∧ 60 < (q.bad.getD j cnt0).states.length
instance (q : Prp) : Decidable (bigQ q) := inferInstanceAs (Decidable (_ ∨ _))
theorem bigQ_le {q : Prp} (h : ¬ bigQ q) : q.name.size ≤ 500 ∧ q.start.length ≤ 60 ∧ q.bad.length ≤ 60 ∧ q.adjacent.length ≤ 60 ∧ q.goal.length ≤ 60 := by
  unfold bigQ at h
  omega
theorem bigQ_cnt {q : Prp} (h : ¬ bigQ q) : ∀ j, j < q.bad.length → (q.bad.getD j cnt0).states.length ≤ 60 := fun j hj => by
  have : ¬ (60 < (q.bad.getD j cnt0).states.length) := fun h2 => h (.inr (.inr (.inr (.inr (.inr ⟨j, hj, h2⟩)))))
  omega
theorem bigQF (q : Prp) : PSpec Tryz.prog 16 [.agg (encQ q)] (fun u => u = .bool (decide (bigQ q))) := by
  refine PSpec.intro tt_ok mx_ok Tryz.func16 rfl (by decide) ?_; (conv => whnf)
  refine boxP rfl ?_
  conv => whnf
  repeat' (first
      | (refine needI (by first | omega | (dsimp only; omega)) ?_; conv => whnf)
      | (refine arI trivial (by omega) ?_; conv => whnf)
      | (refine arU trivial (by omega) ?_; conv => whnf)
      | (refine arB trivial (by omega) ?_; conv => whnf)
      | (refine drawI (by decide +kernel) ?_; conv => whnf)
      | (refine drawR (by decide +kernel) ?_; conv => whnf)
      | (refine drawP (by decide +kernel) ?_; conv => whnf)
      | (refine boxP rfl ?_; conv => whnf)
      | (refine appI _ rfl (by first | omega | (dsimp only; omega) | (simp only [List.length_cons, List.length_nil, List.length_append]; omega)) ?_; conv => whnf)
      | (refine rowSetI _ rfl ?_; conv => whnf)
      | (refine cmpT (by omega) ?_; conv => whnf)
      | (refine cmpF (by omega) ?_; conv => whnf)
      | (refine cmpI (fun _ => ?_) (fun _ => ?_) <;> conv => whnf))
  all_goals try first | exact ⟨dec_t (by unfold bigQ; omega), rfl⟩ | skip
  refine WPc.loopF tt_ok mx_ok (fun k : Nat => k ≤ q.bad.length ∧ ∀ j, j < k → ¬ 60 < (q.bad.getD j cnt0).states.length) (fun k => [(3, .int .i64 (k : Int))]) (fun _ => []) (fun k => q.bad.length - k) 0 ⟨by omega, fun j hj => by omega⟩ ?_; conv => whnf
  refine ⟨(Sub.id_ 400 rfl auto_ auto_), ?_⟩
  rintro k ⟨hk, ha⟩
  conv => whnf
  refine cmpI (fun h1 => ?_) (fun h1 => ?_) <;> conv => whnf
  · refine needI (by omega) ?_
    rw [Int.toNat_natCast]
    conv => whnf
    refine cmpI (fun h2 => ?_) (fun h2 => ?_) <;> conv => whnf
    · exact ⟨dec_t (.inr (.inr (.inr (.inr (.inr ⟨k, by omega, by omega⟩))))), rfl⟩
    · repeat' (first
          | (refine needI (by first | omega | (dsimp only; omega)) ?_; conv => whnf)
          | (refine arI trivial (by omega) ?_; conv => whnf)
          | (refine cmpT (by omega) ?_; conv => whnf)
          | (refine cmpF (by omega) ?_; conv => whnf)
          | fail)
      refine ⟨k + 1, (Sub.id_ 400 rfl auto_ auto_), ⟨by omega, fun j hj => ?_⟩, by dsimp only; omega⟩
      by_cases e : j = k
      · subst e; omega
      · exact ha j (by omega)
  · refine ⟨dec_f ?_, rfl⟩
    unfold bigQ
    rintro (h | h | h | h | h | ⟨j, h, h'⟩)
    any_goals omega
    exact ha j (by omega) h'

/-! ### a number among numbers -/
theorem iIndexF (l : List Int) (s : Int) (hl : l.length ≤ 1000) : PSpec Tryz.prog 118 [.sl 0 encI l, .int .i64 s] (fun u => ∃ n : Int, u = .int .i64 n ∧ (0 ≤ n ↔ s ∈ l)) := by
  refine PSpec.intro tt_ok mx_ok Tryz.func118 rfl (by decide) ?_; (conv => whnf)
  refine WPc.loopF tt_ok mx_ok (fun k : Nat => k ≤ l.length ∧ s ∉ l.take k) (fun k => [(8, .int .i64 (k : Int))]) (fun _ => []) (fun k => l.length - k) 0 ⟨by omega, by simp⟩ ?_; conv => whnf
  refine ⟨(Sub.id_ 400 rfl auto_ auto_), ?_⟩
  rintro k ⟨hk, ha⟩
  conv => whnf
  repeat' (first
      | (refine needI (by first | omega | (dsimp only; omega)) ?_; conv => whnf)
      | (refine arI trivial (by omega) ?_; conv => whnf)
      | (refine arU trivial (by omega) ?_; conv => whnf)
      | (refine arB trivial (by omega) ?_; conv => whnf)
      | (refine drawI (by decide +kernel) ?_; conv => whnf)
      | (refine drawR (by decide +kernel) ?_; conv => whnf)
      | (refine drawP (by decide +kernel) ?_; conv => whnf)
      | (refine boxP rfl ?_; conv => whnf)
      | (refine appI _ rfl (by first | omega | (dsimp only; omega) | (simp only [List.length_cons, List.length_nil, List.length_append]; omega)) ?_; conv => whnf)
      | (refine rowSetI _ rfl ?_; conv => whnf)
      | (refine cmpT (by omega) ?_; conv => whnf)
      | (refine cmpF (by omega) ?_; conv => whnf)
      | (refine cmpI (fun _ => ?_) (fun _ => ?_) <;> conv => whnf))
  · rename_i h1 h2
    rw [Int.toNat_natCast] at h2
    refine ⟨⟨k, rfl, fun _ => ?_, fun _ => by omega⟩, rfl⟩
    rw [h2, List.getD_eq_getElem?_getD, List.getElem?_eq_getElem (by omega)]
    exact List.getElem_mem _
  · rename_i h1 h2
    rw [Int.toNat_natCast] at h2
    refine ⟨k + 1, (Sub.id_ 400 rfl auto_ auto_), ⟨by omega, ?_⟩, by dsimp only; omega⟩
    rw [List.take_succ_eq_append_getElem (by omega), List.mem_append, List.mem_singleton, not_or]
    refine ⟨ha, ?_⟩
    rw [List.getD_eq_getElem?_getD, List.getElem?_eq_getElem (by omega)] at h2
    exact h2
  · obtain rfl : k = l.length := by omega
    rw [List.take_length] at ha
    exact ⟨⟨-1, rfl, fun h => by omega, fun h => absurd h ha⟩, rfl⟩
theorem iContainsF (l : List Int) (s : Int) (hl : l.length ≤ 1000) : PSpec Tryz.prog 74 [.sl 0 encI l, .int .i64 s] (fun u => u = .bool (decide (s ∈ l))) := by
  refine PSpec.intro tt_ok mx_ok Tryz.func74 rfl (by decide) ?_; (conv => whnf)
  refine Spec.of_pure (n := 5) (iIndexF l s hl) rfl ?_
  rintro _ ⟨n, rfl, hn⟩
  conv => whnf
  refine cmpI (fun h => ?_) (fun h => ?_) <;> conv => whnf
  · exact ⟨dec_t (hn.1 h), rfl⟩
  · exact ⟨dec_f (fun hh => h (hn.2 hh)), rfl⟩
theorem hasR (l : List Int) (s : Int) (hl : l.length ≤ 1000) : PSpec Tryz.prog 91 [.sl 0 encI l, .int .i64 s] (fun u => u = .bool (decide (s ∈ l))) := by
  refine PSpec.intro tt_ok mx_ok Tryz.func91 rfl (by decide) ?_; (conv => whnf)
  refine WPc.loopF tt_ok mx_ok (fun k : Nat => k ≤ l.length ∧ s ∉ l.take k) (fun k => [(5, .int .i64 (k : Int))]) (fun _ => []) (fun k => l.length - k) 0 ⟨by omega, by simp⟩ ?_; conv => whnf
  refine ⟨(Sub.id_ 400 rfl auto_ auto_), ?_⟩
  rintro k ⟨hk, ha⟩
  conv => whnf
  repeat' (first
      | (refine needI (by first | omega | (dsimp only; omega)) ?_; conv => whnf)
      | (refine arI trivial (by omega) ?_; conv => whnf)
      | (refine arU trivial (by omega) ?_; conv => whnf)
      | (refine arB trivial (by omega) ?_; conv => whnf)
      | (refine drawI (by decide +kernel) ?_; conv => whnf)
      | (refine drawR (by decide +kernel) ?_; conv => whnf)
      | (refine drawP (by decide +kernel) ?_; conv => whnf)
      | (refine boxP rfl ?_; conv => whnf)
      | (refine appI _ rfl (by first | omega | (dsimp only; omega) | (simp only [List.length_cons, List.length_nil, List.length_append]; omega)) ?_; conv => whnf)
      | (refine rowSetI _ rfl ?_; conv => whnf)
      | (refine cmpT (by omega) ?_; conv => whnf)
      | (refine cmpF (by omega) ?_; conv => whnf)
      | (refine cmpI (fun _ => ?_) (fun _ => ?_) <;> conv => whnf))
  · rename_i h1 h2
    rw [Int.toNat_natCast] at h2
    refine ⟨dec_t ?_, rfl⟩
    rw [← h2, List.getD_eq_getElem?_getD, List.getElem?_eq_getElem (by omega)]
    exact List.getElem_mem _
  · rename_i h1 h2
    rw [Int.toNat_natCast] at h2
    refine ⟨k + 1, (Sub.id_ 400 rfl auto_ auto_), ⟨by omega, ?_⟩, by dsimp only; omega⟩
    rw [List.take_succ_eq_append_getElem (by omega), List.mem_append, List.mem_singleton, not_or]
    refine ⟨ha, fun e => h2 ?_⟩
    rw [List.getD_eq_getElem?_getD, List.getElem?_eq_getElem (by omega)]
    exact e.symm
  · obtain rfl : k = l.length := by omega
    rw [List.take_length] at ha
    exact ⟨dec_f ha, rfl⟩

/-! ### the program's answer -/
def cntE (n : Int) (c : Cnt) : Int := orL [setE c.states n, (if c.states.length = 0 ∨ c.least < 1 ∨ 3 < c.least then 1 else 0)]
def cntsE (n : Int) (l : List Cnt) : Int := orL (l.map (cntE n))
def adjE (p : Pro) (l : List Int) : Int := if l.length = 0 then 0 else if p.topology = 1 then 6 else if l.length ≠ 2 then 1 else orL [indE (l.getD 0 0) p.states.length, indE (l.getD 1 0) p.states.length]
def propE (p : Pro) (q : Prp) : Int :=
  if validE p ≠ 0 then validE p else if ¬ validN q.name then 2 else if q.kind ≠ 1 ∧ q.kind ≠ 2 then 1
  else if (q.kind = 1 ∧ 0 < q.goal.length) ∨ (q.kind = 2 ∧ (0 < q.bad.length ∨ 0 < q.adjacent.length)) then 1
  else if setE q.start p.states.length ≠ 0 then setE q.start p.states.length
  else if ¬ (∀ j, j < q.start.length → q.start.getD j 0 ∈ p.initial) then 5
  else if q.kind = 2 then orL [setE q.goal p.states.length, (if q.goal.length = 0 then 1 else 0)]
  else orL [(if q.bad.length = 0 ∧ q.adjacent.length = 0 then 1 else 0), (if 3 < q.bad.length then 4 else 0), cntsE p.states.length q.bad, adjE p q.adjacent]

theorem countsPF (l : List Cnt) (n : Int) (hl : l.length ≤ 1000) (hs : ∀ j, j < l.length → (l.getD j cnt0).states.length ≤ 60) : PSpec Tryz.prog 75 [.sl cnt0 encCnt l, .int .i64 n] (fun u => u = .int .i64 (cntsE n l)) := by
  refine PSpec.intro tt_ok mx_ok Tryz.func75 rfl (by decide) ?_; (conv => whnf)
  refine WPc.loopF tt_ok mx_ok (fun k : Nat => k ≤ l.length ∧ cntsE n l = orL ((l.drop k).map (cntE n))) (fun k => [(10, .int .i64 (k : Int))]) (fun _ => []) (fun k => l.length - k) 0 ⟨by omega, rfl⟩ ?_; conv => whnf
  refine ⟨(Sub.id_ 400 rfl auto_ auto_), ?_⟩
  rintro k ⟨hk, he⟩
  conv => whnf
  refine cmpI (fun h1 => ?_) (fun h1 => ?_) <;> conv => whnf
  · rw [orL_map_drop _ cnt0 (by omega)] at he
    have hlen := hs k (by omega)
    refine needI (by omega) ?_
    rw [Int.toNat_natCast]
    generalize l.getD k cnt0 = g at he hlen
    conv => whnf
    refine drawI (by decide +kernel) ?_
    conv => whnf
    (refine callPI 5 (setP g.states n (by omega)) rfl ⟨_, rfl⟩ ?_; rintro _ rfl; conv => whnf)
    have fin : ∀ c : Int, c = (if g.states.length = 0 ∨ g.least < 1 ∨ 3 < g.least then 1 else 0) → orL [setE g.states n, c] = cntE n g := by rintro c rfl; rfl
    by_cases hc : g.states.length = 0 ∨ g.least < 1 ∨ 3 < g.least
    · have ec := fin 1 (by rw [if_pos hc])
      repeat' (first
          | (refine needI (by first | omega | (dsimp only; omega)) ?_; conv => whnf)
          | (refine arI trivial (by omega) ?_; conv => whnf)
          | (refine arU trivial (by omega) ?_; conv => whnf)
          | (refine arB trivial (by omega) ?_; conv => whnf)
          | (refine drawI (by decide +kernel) ?_; conv => whnf)
          | (refine drawR (by decide +kernel) ?_; conv => whnf)
          | (refine drawP (by decide +kernel) ?_; conv => whnf)
          | (refine boxP rfl ?_; conv => whnf)
          | (refine appI _ rfl (by first | omega | (dsimp only; omega) | (simp only [List.length_cons, List.length_nil, List.length_append]; omega)) ?_; conv => whnf)
          | (refine rowSetI _ rfl ?_; conv => whnf)
          | (refine cmpT (by omega) ?_; conv => whnf)
          | (refine cmpF (by omega) ?_; conv => whnf)
          | (refine cmpI (fun _ => ?_) (fun _ => ?_) <;> conv => whnf))
      all_goals
        (refine callPI 5 (whenT 1) rfl ⟨_, rfl⟩ ?_; rintro _ rfl; conv => whnf)
        refine leakY ?_
        conv => whnf
        (refine callPI 5 (firstF _ (by simp)) rfl ⟨_, rfl⟩ ?_; rintro _ rfl; conv => whnf)
        rw [ec]
        refine cmpI (fun h2 => ?_) (fun h2 => ?_) <;> conv => whnf
        · rw [if_pos h2] at he
          exact ⟨av_int he.symm, rfl⟩
        · rw [if_neg h2] at he
          repeat' (first
              | (refine needI (by first | omega | (dsimp only; omega)) ?_; conv => whnf)
              | (refine arI trivial (by omega) ?_; conv => whnf)
              | (refine arU trivial (by omega) ?_; conv => whnf)
              | (refine arB trivial (by omega) ?_; conv => whnf)
              | (refine drawI (by decide +kernel) ?_; conv => whnf)
              | (refine drawR (by decide +kernel) ?_; conv => whnf)
              | (refine drawP (by decide +kernel) ?_; conv => whnf)
              | (refine boxP rfl ?_; conv => whnf)
              | (refine appI _ rfl (by first | omega | (dsimp only; omega) | (simp only [List.length_cons, List.length_nil, List.length_append]; omega)) ?_; conv => whnf)
              | (refine rowSetI _ rfl ?_; conv => whnf)
              | (refine cmpT (by omega) ?_; conv => whnf)
              | (refine cmpF (by omega) ?_; conv => whnf)
              | (refine cmpI (fun _ => ?_) (fun _ => ?_) <;> conv => whnf))
          exact ⟨k + 1, (Sub.id_ 400 rfl auto_ auto_), ⟨by omega, he⟩, by dsimp only; omega⟩
    · have ec := fin 0 (by rw [if_neg hc])
      repeat' (first
          | (refine needI (by first | omega | (dsimp only; omega)) ?_; conv => whnf)
          | (refine arI trivial (by omega) ?_; conv => whnf)
          | (refine cmpT (by omega) ?_; conv => whnf)
          | (refine cmpF (by omega) ?_; conv => whnf)
          | fail)
      (refine callPI 5 (whenF 1) rfl ⟨_, rfl⟩ ?_; rintro _ rfl; conv => whnf)
      refine leakY ?_
      conv => whnf
      (refine callPI 5 (firstF _ (by simp)) rfl ⟨_, rfl⟩ ?_; rintro _ rfl; conv => whnf)
      rw [ec]
      refine cmpI (fun h2 => ?_) (fun h2 => ?_) <;> conv => whnf
      · rw [if_pos h2] at he
        exact ⟨av_int he.symm, rfl⟩
      · rw [if_neg h2] at he
        repeat' (first
            | (refine needI (by first | omega | (dsimp only; omega)) ?_; conv => whnf)
            | (refine arI trivial (by omega) ?_; conv => whnf)
            | (refine arU trivial (by omega) ?_; conv => whnf)
            | (refine arB trivial (by omega) ?_; conv => whnf)
            | (refine drawI (by decide +kernel) ?_; conv => whnf)
            | (refine drawR (by decide +kernel) ?_; conv => whnf)
            | (refine drawP (by decide +kernel) ?_; conv => whnf)
            | (refine boxP rfl ?_; conv => whnf)
            | (refine appI _ rfl (by first | omega | (dsimp only; omega) | (simp only [List.length_cons, List.length_nil, List.length_append]; omega)) ?_; conv => whnf)
            | (refine rowSetI _ rfl ?_; conv => whnf)
            | (refine cmpT (by omega) ?_; conv => whnf)
            | (refine cmpF (by omega) ?_; conv => whnf)
            | (refine cmpI (fun _ => ?_) (fun _ => ?_) <;> conv => whnf))
        exact ⟨k + 1, (Sub.id_ 400 rfl auto_ auto_), ⟨by omega, he⟩, by dsimp only; omega⟩
  · rw [List.drop_of_length_le (by omega)] at he
    exact ⟨av_int he.symm, rfl⟩
theorem adjPF (p : Pro) (l : List Int) : PSpec Tryz.prog 76 [.agg (encP p), .sl 0 encI l] (fun u => u = .int .i64 (adjE p l)) := by
  have he := adjE.eq_1 p l
  refine PSpec.intro tt_ok mx_ok Tryz.func76 rfl (by decide) ?_; (conv => whnf)
  refine boxP rfl ?_
  conv => whnf
  refine cmpI (fun h1 => ?_) (fun h1 => ?_) <;> conv => whnf
  · rw [if_pos (by omega)] at he; exact ⟨av_int he.symm, rfl⟩
  rw [if_neg (by omega)] at he
  refine cmpI (fun h2 => ?_) (fun h2 => ?_) <;> conv => whnf
  · rw [if_pos h2] at he; exact ⟨av_int he.symm, rfl⟩
  rw [if_neg h2] at he
  refine cmpI (fun h3 => ?_) (fun h3 => ?_) <;> conv => whnf
  · rw [if_pos (by omega)] at he; exact ⟨av_int he.symm, rfl⟩
  rw [if_neg (by omega)] at he
  refine drawI (by decide +kernel) ?_
  conv => whnf
  refine needI (by omega) ?_
  conv => whnf
  (refine callPI 5 (indexF _ _) rfl ⟨_, rfl⟩ ?_; rintro _ rfl; conv => whnf)
  refine needI (by omega) ?_
  conv => whnf
  (refine callPI 5 (indexF _ _) rfl ⟨_, rfl⟩ ?_; rintro _ rfl; conv => whnf)
  refine leakY ?_
  conv => whnf
  (refine callPI 5 (firstF _ (by simp)) rfl ⟨_, rfl⟩ ?_; rintro _ rfl; conv => whnf)
  exact ⟨av_int he.symm, rfl⟩
theorem propertyF (p : Pro) (q : Prp) (hp : ¬ bigP p) (hq : ¬ bigQ q) : PSpec Tryz.prog 35 [.agg (encP p), .agg (encQ q)] (fun u => u = .int .i64 (propE p q)) := by
  have hle := bigP_le hp
  have hlq := bigQ_le hq
  have he := propE.eq_1 p q
  refine PSpec.intro tt_ok mx_ok Tryz.func35 rfl (by decide) ?_; (conv => whnf)
  refine boxP rfl ?_
  conv => whnf
  refine boxP rfl ?_
  conv => whnf
  (refine Spec.of_pure (n := 5) (validateF p hp) rfl ?_; rintro _ rfl; conv => whnf)
  refine cmpI (fun h1 => ?_) (fun h1 => ?_) <;> conv => whnf
  · rw [if_pos h1] at he; exact ⟨av_int he.symm, rfl⟩
  rw [if_neg h1] at he
  refine cmpI (fun hk => ?_) (fun hk => ?_) <;> conv => whnf
  all_goals
    refine Spec.dcall (n := 5) (validNameP q.name (by omega)) rfl (fun _ => ?_) (fun _ => ?_) <;> (conv => whnf)
    case refine_2 => rename_i hv; rw [if_pos hv] at he; exact ⟨av_int he.symm, rfl⟩
    rename_i hv
    rw [if_neg (fun h => h hv)] at he
    by_cases hA : q.kind ≠ 1 ∧ q.kind ≠ 2
    · rw [if_pos hA] at he
      repeat' (first
          | (refine needI (by first | omega | (dsimp only; omega)) ?_; conv => whnf)
          | (refine arI trivial (by omega) ?_; conv => whnf)
          | (refine arU trivial (by omega) ?_; conv => whnf)
          | (refine arB trivial (by omega) ?_; conv => whnf)
          | (refine drawI (by decide +kernel) ?_; conv => whnf)
          | (refine drawR (by decide +kernel) ?_; conv => whnf)
          | (refine drawP (by decide +kernel) ?_; conv => whnf)
          | (refine boxP rfl ?_; conv => whnf)
          | (refine appI _ rfl (by first | omega | (dsimp only; omega) | (simp only [List.length_cons, List.length_nil, List.length_append]; omega)) ?_; conv => whnf)
          | (refine rowSetI _ rfl ?_; conv => whnf)
          | (refine cmpT (by omega) ?_; conv => whnf)
          | (refine cmpF (by omega) ?_; conv => whnf)
          | (refine cmpI (fun _ => ?_) (fun _ => ?_) <;> conv => whnf))
      all_goals exact ⟨av_int he.symm, rfl⟩
    rw [if_neg hA] at he
    by_cases hB : (q.kind = 1 ∧ 0 < q.goal.length) ∨ (q.kind = 2 ∧ (0 < q.bad.length ∨ 0 < q.adjacent.length))
    · rw [if_pos hB] at he
      repeat' (first
          | (refine needI (by first | omega | (dsimp only; omega)) ?_; conv => whnf)
          | (refine arI trivial (by omega) ?_; conv => whnf)
          | (refine arU trivial (by omega) ?_; conv => whnf)
          | (refine arB trivial (by omega) ?_; conv => whnf)
          | (refine drawI (by decide +kernel) ?_; conv => whnf)
          | (refine drawR (by decide +kernel) ?_; conv => whnf)
          | (refine drawP (by decide +kernel) ?_; conv => whnf)
          | (refine boxP rfl ?_; conv => whnf)
          | (refine appI _ rfl (by first | omega | (dsimp only; omega) | (simp only [List.length_cons, List.length_nil, List.length_append]; omega)) ?_; conv => whnf)
          | (refine rowSetI _ rfl ?_; conv => whnf)
          | (refine cmpT (by omega) ?_; conv => whnf)
          | (refine cmpF (by omega) ?_; conv => whnf)
          | (refine cmpI (fun _ => ?_) (fun _ => ?_) <;> conv => whnf))
      all_goals exact ⟨av_int he.symm, rfl⟩
    rw [if_neg hB] at he
    repeat' (first
        | (refine needI (by first | omega | (dsimp only; omega)) ?_; conv => whnf)
        | (refine arI trivial (by omega) ?_; conv => whnf)
        | (refine cmpT (by omega) ?_; conv => whnf)
        | (refine cmpF (by omega) ?_; conv => whnf)
        | fail)
    (refine Spec.of_pure (n := 5) (setP q.start _ (by omega)) rfl ?_; rintro _ rfl; conv => whnf)
    refine cmpI (fun h2 => ?_) (fun h2 => ?_) <;> conv => whnf
    · rw [if_pos h2] at he; exact ⟨av_int he.symm, rfl⟩
    rw [if_neg h2] at he
    refine WPc.loopF tt_ok mx_ok (fun k : Nat => k ≤ q.start.length ∧ ∀ j, j < k → q.start.getD j 0 ∈ p.initial) (fun k => [(67, .int .i64 (k : Int))]) (fun _ => []) (fun k => q.start.length - k) 0 ⟨by omega, fun j hj => by omega⟩ ?_; conv => whnf
    refine ⟨(Sub.id_ 400 rfl auto_ auto_), ?_⟩
    rintro k ⟨hk', ha⟩
    conv => whnf
    refine cmpI (fun h3 => ?_) (fun h3 => ?_) <;> conv => whnf
    · refine needI (by omega) ?_
      rw [Int.toNat_natCast]
      conv => whnf
      refine Spec.dcall (n := 5) (iContainsF p.initial _ (by omega)) rfl (fun _ => ?_) (fun _ => ?_) <;> (conv => whnf)
      · rename_i hm
        repeat' (first
            | (refine needI (by first | omega | (dsimp only; omega)) ?_; conv => whnf)
            | (refine arI trivial (by omega) ?_; conv => whnf)
            | (refine cmpT (by omega) ?_; conv => whnf)
            | (refine cmpF (by omega) ?_; conv => whnf)
            | fail)
        refine ⟨k + 1, (Sub.id_ 400 rfl auto_ auto_), ⟨by omega, fun j hj => ?_⟩, by dsimp only; omega⟩
        by_cases e : j = k
        · subst e; exact hm
        · exact ha j (by omega)
      · rename_i hm
        rw [if_pos (fun h => hm (h k (by omega)))] at he
        exact ⟨av_int he.symm, rfl⟩
    rw [if_neg (fun h => h (fun j hj => ha j (by omega)))] at he
    refine drawI (by decide +kernel) ?_
    conv => whnf
  · rw [if_neg (by omega)] at he
    have fin : ∀ a b : Int, a = (if q.bad.length = 0 ∧ q.adjacent.length = 0 then 1 else 0) → b = (if 3 < q.bad.length then 4 else 0) → propE p q = orL [a, b, cntsE p.states.length q.bad, adjE p q.adjacent] := by rintro a b rfl rfl; exact he
    by_cases hC : q.bad.length = 0 ∧ q.adjacent.length = 0
    · have f1 := fin 1 0 (by rw [if_pos hC]) (by rw [if_neg (by omega)])
      repeat' (first
          | (refine needI (by first | omega | (dsimp only; omega)) ?_; conv => whnf)
          | (refine arI trivial (by omega) ?_; conv => whnf)
          | (refine cmpT (by omega) ?_; conv => whnf)
          | (refine cmpF (by omega) ?_; conv => whnf)
          | fail)
      (refine callPI 5 (whenT 1) rfl ⟨_, rfl⟩ ?_; rintro _ rfl; conv => whnf)
      repeat' (first
          | (refine needI (by first | omega | (dsimp only; omega)) ?_; conv => whnf)
          | (refine arI trivial (by omega) ?_; conv => whnf)
          | (refine cmpT (by omega) ?_; conv => whnf)
          | (refine cmpF (by omega) ?_; conv => whnf)
          | fail)
      (refine callPI 5 (whenF 4) rfl ⟨_, rfl⟩ ?_; rintro _ rfl; conv => whnf)
      (refine callPI 5 (countsPF q.bad _ (by omega) (bigQ_cnt hq)) rfl ⟨_, rfl⟩ ?_; rintro _ rfl; conv => whnf)
      (refine callPI 5 (adjPF p q.adjacent) rfl ⟨_, rfl⟩ ?_; rintro _ rfl; conv => whnf)
      refine leakY ?_
      conv => whnf
      (refine callPI 5 (firstF _ (by simp)) rfl ⟨_, rfl⟩ ?_; rintro _ rfl; conv => whnf)
      exact ⟨av_int f1.symm, rfl⟩
    · by_cases hD : 3 < q.bad.length
      · have f1 := fin 0 4 (by rw [if_neg hC]) (by rw [if_pos hD])
        repeat' (first
            | (refine needI (by first | omega | (dsimp only; omega)) ?_; conv => whnf)
            | (refine arI trivial (by omega) ?_; conv => whnf)
            | (refine arU trivial (by omega) ?_; conv => whnf)
            | (refine arB trivial (by omega) ?_; conv => whnf)
            | (refine drawI (by decide +kernel) ?_; conv => whnf)
            | (refine drawR (by decide +kernel) ?_; conv => whnf)
            | (refine drawP (by decide +kernel) ?_; conv => whnf)
            | (refine boxP rfl ?_; conv => whnf)
            | (refine appI _ rfl (by first | omega | (dsimp only; omega) | (simp only [List.length_cons, List.length_nil, List.length_append]; omega)) ?_; conv => whnf)
            | (refine rowSetI _ rfl ?_; conv => whnf)
            | (refine cmpT (by omega) ?_; conv => whnf)
            | (refine cmpF (by omega) ?_; conv => whnf)
            | (refine cmpI (fun _ => ?_) (fun _ => ?_) <;> conv => whnf))
        all_goals
          (refine callPI 5 (whenF 1) rfl ⟨_, rfl⟩ ?_; rintro _ rfl; conv => whnf)
          repeat' (first
              | (refine needI (by first | omega | (dsimp only; omega)) ?_; conv => whnf)
              | (refine arI trivial (by omega) ?_; conv => whnf)
              | (refine cmpT (by omega) ?_; conv => whnf)
              | (refine cmpF (by omega) ?_; conv => whnf)
              | fail)
          (refine callPI 5 (whenT 4) rfl ⟨_, rfl⟩ ?_; rintro _ rfl; conv => whnf)
          (refine callPI 5 (countsPF q.bad _ (by omega) (bigQ_cnt hq)) rfl ⟨_, rfl⟩ ?_; rintro _ rfl; conv => whnf)
          (refine callPI 5 (adjPF p q.adjacent) rfl ⟨_, rfl⟩ ?_; rintro _ rfl; conv => whnf)
          refine leakY ?_
          conv => whnf
          (refine callPI 5 (firstF _ (by simp)) rfl ⟨_, rfl⟩ ?_; rintro _ rfl; conv => whnf)
          exact ⟨av_int f1.symm, rfl⟩
      · have f1 := fin 0 0 (by rw [if_neg hC]) (by rw [if_neg hD])
        repeat' (first
            | (refine needI (by first | omega | (dsimp only; omega)) ?_; conv => whnf)
            | (refine arI trivial (by omega) ?_; conv => whnf)
            | (refine arU trivial (by omega) ?_; conv => whnf)
            | (refine arB trivial (by omega) ?_; conv => whnf)
            | (refine drawI (by decide +kernel) ?_; conv => whnf)
            | (refine drawR (by decide +kernel) ?_; conv => whnf)
            | (refine drawP (by decide +kernel) ?_; conv => whnf)
            | (refine boxP rfl ?_; conv => whnf)
            | (refine appI _ rfl (by first | omega | (dsimp only; omega) | (simp only [List.length_cons, List.length_nil, List.length_append]; omega)) ?_; conv => whnf)
            | (refine rowSetI _ rfl ?_; conv => whnf)
            | (refine cmpT (by omega) ?_; conv => whnf)
            | (refine cmpF (by omega) ?_; conv => whnf)
            | (refine cmpI (fun _ => ?_) (fun _ => ?_) <;> conv => whnf))
        all_goals
          (refine callPI 5 (whenF 1) rfl ⟨_, rfl⟩ ?_; rintro _ rfl; conv => whnf)
          repeat' (first
              | (refine needI (by first | omega | (dsimp only; omega)) ?_; conv => whnf)
              | (refine arI trivial (by omega) ?_; conv => whnf)
              | (refine cmpT (by omega) ?_; conv => whnf)
              | (refine cmpF (by omega) ?_; conv => whnf)
              | fail)
          (refine callPI 5 (whenF 4) rfl ⟨_, rfl⟩ ?_; rintro _ rfl; conv => whnf)
          (refine callPI 5 (countsPF q.bad _ (by omega) (bigQ_cnt hq)) rfl ⟨_, rfl⟩ ?_; rintro _ rfl; conv => whnf)
          (refine callPI 5 (adjPF p q.adjacent) rfl ⟨_, rfl⟩ ?_; rintro _ rfl; conv => whnf)
          refine leakY ?_
          conv => whnf
          (refine callPI 5 (firstF _ (by simp)) rfl ⟨_, rfl⟩ ?_; rintro _ rfl; conv => whnf)
          exact ⟨av_int f1.symm, rfl⟩
  · rw [if_pos (by omega)] at he
    (refine callPI 5 (setP q.goal _ (by omega)) rfl ⟨_, rfl⟩ ?_; rintro _ rfl; conv => whnf)
    by_cases hC : q.goal.length = 0
    · rw [if_pos hC] at he
      repeat' (first
          | (refine needI (by first | omega | (dsimp only; omega)) ?_; conv => whnf)
          | (refine arI trivial (by omega) ?_; conv => whnf)
          | (refine cmpT (by omega) ?_; conv => whnf)
          | (refine cmpF (by omega) ?_; conv => whnf)
          | fail)
      (refine callPI 5 (whenT 1) rfl ⟨_, rfl⟩ ?_; rintro _ rfl; conv => whnf)
      refine leakY ?_
      conv => whnf
      (refine callPI 5 (firstF _ (by simp)) rfl ⟨_, rfl⟩ ?_; rintro _ rfl; conv => whnf)
      exact ⟨av_int he.symm, rfl⟩
    · rw [if_neg hC] at he
      repeat' (first
          | (refine needI (by first | omega | (dsimp only; omega)) ?_; conv => whnf)
          | (refine arI trivial (by omega) ?_; conv => whnf)
          | (refine cmpT (by omega) ?_; conv => whnf)
          | (refine cmpF (by omega) ?_; conv => whnf)
          | fail)
      (refine callPI 5 (whenF 1) rfl ⟨_, rfl⟩ ?_; rintro _ rfl; conv => whnf)
      refine leakY ?_
      conv => whnf
      (refine callPI 5 (firstF _ (by simp)) rfl ⟨_, rfl⟩ ?_; rintro _ rfl; conv => whnf)
      exact ⟨av_int he.symm, rfl⟩

/-! ### the document's answer -/
theorem propertyR (p : Pro) (q : Prp) (hp : ¬ bigP p) (hq : ¬ bigQ q) : PSpec Tryz.prog 88 [.agg (encP p), .agg (encQ q)] (fun u => u = .int .i64 (propE p q)) := by
  have hle := bigP_le hp
  have hlq := bigQ_le hq
  have he := propE.eq_1 p q
  refine PSpec.intro tt_ok mx_ok Tryz.func88 rfl (by decide) ?_; (conv => whnf)
  refine boxP rfl ?_
  conv => whnf
  refine boxP rfl ?_
  conv => whnf
  (refine Spec.of_pure (n := 5) (validateR p hp) rfl ?_; rintro _ rfl; conv => whnf)
  refine cmpI (fun h1 => ?_) (fun h1 => ?_) <;> conv => whnf
  · rw [if_pos h1] at he; exact ⟨av_int he.symm, rfl⟩
  rw [if_neg h1] at he
  refine Spec.dcall (n := 5) (validNameR q.name (by omega)) rfl (fun _ => ?_) (fun _ => ?_) <;> (conv => whnf)
  case refine_2 => rename_i hv; rw [if_pos hv] at he; exact ⟨av_int he.symm, rfl⟩
  rename_i hv
  rw [if_neg (fun h => h hv)] at he
  by_cases hA : q.kind ≠ 1 ∧ q.kind ≠ 2
  · rw [if_pos hA] at he
    repeat' (first
        | (refine needI (by first | omega | (dsimp only; omega)) ?_; conv => whnf)
        | (refine arI trivial (by omega) ?_; conv => whnf)
        | (refine arU trivial (by omega) ?_; conv => whnf)
        | (refine arB trivial (by omega) ?_; conv => whnf)
        | (refine drawI (by decide +kernel) ?_; conv => whnf)
        | (refine drawR (by decide +kernel) ?_; conv => whnf)
        | (refine drawP (by decide +kernel) ?_; conv => whnf)
        | (refine boxP rfl ?_; conv => whnf)
        | (refine appI _ rfl (by first | omega | (dsimp only; omega) | (simp only [List.length_cons, List.length_nil, List.length_append]; omega)) ?_; conv => whnf)
        | (refine rowSetI _ rfl ?_; conv => whnf)
        | (refine cmpT (by omega) ?_; conv => whnf)
        | (refine cmpF (by omega) ?_; conv => whnf)
        | (refine cmpI (fun _ => ?_) (fun _ => ?_) <;> conv => whnf))
    all_goals exact ⟨av_int he.symm, rfl⟩
  rw [if_neg hA] at he
  by_cases hB : (q.kind = 1 ∧ 0 < q.goal.length) ∨ (q.kind = 2 ∧ (0 < q.bad.length ∨ 0 < q.adjacent.length))
  · rw [if_pos hB] at he
    repeat' (first
        | (refine needI (by first | omega | (dsimp only; omega)) ?_; conv => whnf)
        | (refine arI trivial (by omega) ?_; conv => whnf)
        | (refine arU trivial (by omega) ?_; conv => whnf)
        | (refine arB trivial (by omega) ?_; conv => whnf)
        | (refine drawI (by decide +kernel) ?_; conv => whnf)
        | (refine drawR (by decide +kernel) ?_; conv => whnf)
        | (refine drawP (by decide +kernel) ?_; conv => whnf)
        | (refine boxP rfl ?_; conv => whnf)
        | (refine appI _ rfl (by first | omega | (dsimp only; omega) | (simp only [List.length_cons, List.length_nil, List.length_append]; omega)) ?_; conv => whnf)
        | (refine rowSetI _ rfl ?_; conv => whnf)
        | (refine cmpT (by omega) ?_; conv => whnf)
        | (refine cmpF (by omega) ?_; conv => whnf)
        | (refine cmpI (fun _ => ?_) (fun _ => ?_) <;> conv => whnf))
    all_goals exact ⟨av_int he.symm, rfl⟩
  rw [if_neg hB] at he
  have hk12 : q.kind = 1 ∨ q.kind = 2 := by omega
  rcases hk12 with hk | hk
  all_goals
    repeat' (first
        | (refine needI (by first | omega | (dsimp only; omega)) ?_; conv => whnf)
        | (refine arI trivial (by omega) ?_; conv => whnf)
        | (refine cmpT (by omega) ?_; conv => whnf)
        | (refine cmpF (by omega) ?_; conv => whnf)
        | fail)
    (refine Spec.of_pure (n := 5) (setR q.start _ (by omega) (by omega)) rfl ?_; rintro _ rfl; conv => whnf)
    refine cmpI (fun h2 => ?_) (fun h2 => ?_) <;> conv => whnf
    · rw [if_pos h2] at he; exact ⟨av_int he.symm, rfl⟩
    rw [if_neg h2] at he
    refine WPc.loopF tt_ok mx_ok (fun k : Nat => k ≤ q.start.length ∧ ∀ j, j < k → q.start.getD j 0 ∈ p.initial) (fun k => [(8, .int .i64 (k : Int))]) (fun _ => []) (fun k => q.start.length - k) 0 ⟨by omega, fun j hj => by omega⟩ ?_; conv => whnf
    refine ⟨(Sub.id_ 400 rfl auto_ auto_), ?_⟩
    rintro k ⟨hk', ha⟩
    conv => whnf
    refine cmpI (fun h3 => ?_) (fun h3 => ?_) <;> conv => whnf
    · refine drawI (by decide +kernel) ?_
      conv => whnf
      refine needI (by omega) ?_
      rw [Int.toNat_natCast]
      conv => whnf
      refine callD 5 (hasR p.initial _ (by omega)) rfl (fun _ => ?_) (fun _ => ?_) <;> (conv => whnf)
      · rename_i hm
        repeat' (first
            | (refine needI (by first | omega | (dsimp only; omega)) ?_; conv => whnf)
            | (refine arI trivial (by omega) ?_; conv => whnf)
            | (refine cmpT (by omega) ?_; conv => whnf)
            | (refine cmpF (by omega) ?_; conv => whnf)
            | fail)
        refine ⟨k + 1, (Sub.id_ 400 rfl auto_ auto_), ⟨by omega, fun j hj => ?_⟩, by dsimp only; omega⟩
        by_cases e : j = k
        · subst e; exact hm
        · exact ha j (by omega)
      · rename_i hm
        rw [if_pos (fun h => hm (h k (by omega)))] at he
        exact ⟨av_int he.symm, rfl⟩
    rw [if_neg (fun h => h (fun j hj => ha j (by omega)))] at he
    repeat' (first
        | (refine needI (by first | omega | (dsimp only; omega)) ?_; conv => whnf)
        | (refine arI trivial (by omega) ?_; conv => whnf)
        | (refine cmpT (by omega) ?_; conv => whnf)
        | (refine cmpF (by omega) ?_; conv => whnf)
        | fail)
  · rw [if_neg (by omega)] at he
    by_cases hC : q.bad.length = 0 ∧ q.adjacent.length = 0
    · rw [if_pos hC] at he
      repeat' (first
          | (refine needI (by first | omega | (dsimp only; omega)) ?_; conv => whnf)
          | (refine arI trivial (by omega) ?_; conv => whnf)
          | (refine cmpT (by omega) ?_; conv => whnf)
          | (refine cmpF (by omega) ?_; conv => whnf)
          | fail)
      exact ⟨av_int he.symm, rfl⟩
    rw [if_neg hC] at he
    have he : propE p q = orL [(if 3 < q.bad.length then 4 else 0), cntsE p.states.length q.bad, adjE p q.adjacent] := he
    by_cases hD : 3 < q.bad.length
    · rw [if_pos hD] at he
      repeat' (first
          | (refine needI (by first | omega | (dsimp only; omega)) ?_; conv => whnf)
          | (refine arI trivial (by omega) ?_; conv => whnf)
          | (refine arU trivial (by omega) ?_; conv => whnf)
          | (refine arB trivial (by omega) ?_; conv => whnf)
          | (refine drawI (by decide +kernel) ?_; conv => whnf)
          | (refine drawR (by decide +kernel) ?_; conv => whnf)
          | (refine drawP (by decide +kernel) ?_; conv => whnf)
          | (refine boxP rfl ?_; conv => whnf)
          | (refine appI _ rfl (by first | omega | (dsimp only; omega) | (simp only [List.length_cons, List.length_nil, List.length_append]; omega)) ?_; conv => whnf)
          | (refine rowSetI _ rfl ?_; conv => whnf)
          | (refine cmpT (by omega) ?_; conv => whnf)
          | (refine cmpF (by omega) ?_; conv => whnf)
          | (refine cmpI (fun _ => ?_) (fun _ => ?_) <;> conv => whnf))
      all_goals exact ⟨av_int he.symm, rfl⟩
    rw [if_neg hD] at he
    have he : propE p q = orL [cntsE p.states.length q.bad, adjE p q.adjacent] := he
    repeat' (first
        | (refine needI (by first | omega | (dsimp only; omega)) ?_; conv => whnf)
        | (refine arI trivial (by omega) ?_; conv => whnf)
        | (refine arU trivial (by omega) ?_; conv => whnf)
        | (refine arB trivial (by omega) ?_; conv => whnf)
        | (refine drawI (by decide +kernel) ?_; conv => whnf)
        | (refine drawR (by decide +kernel) ?_; conv => whnf)
        | (refine drawP (by decide +kernel) ?_; conv => whnf)
        | (refine boxP rfl ?_; conv => whnf)
        | (refine appI _ rfl (by first | omega | (dsimp only; omega) | (simp only [List.length_cons, List.length_nil, List.length_append]; omega)) ?_; conv => whnf)
        | (refine rowSetI _ rfl ?_; conv => whnf)
        | (refine cmpT (by omega) ?_; conv => whnf)
        | (refine cmpF (by omega) ?_; conv => whnf)
        | (refine cmpI (fun _ => ?_) (fun _ => ?_) <;> conv => whnf))
    all_goals
      refine WPc.loopF tt_ok mx_ok (fun k : Nat => k ≤ q.bad.length ∧ cntsE p.states.length q.bad = orL ((q.bad.drop k).map (cntE p.states.length))) (fun k => [(10, .int .i64 (k : Int))]) (fun _ => []) (fun k => q.bad.length - k) 0 ⟨by omega, rfl⟩ ?_; conv => whnf
      refine ⟨(Sub.id_ 400 rfl auto_ auto_), ?_⟩
      rintro k ⟨hk', hr⟩
      conv => whnf
      refine cmpI (fun h3 => ?_) (fun h3 => ?_) <;> conv => whnf
      · first
        | (exfalso; omega)
        | rw [orL_map_drop _ cnt0 (by omega)] at hr
          have hlen := bigQ_cnt hq k (by omega)
          refine needI (by omega) ?_
          rw [Int.toNat_natCast]
          conv => whnf
          (refine Spec.of_pure (n := 5) (setR (q.bad.getD k cnt0).states _ (by omega) (by omega)) rfl ?_; rintro _ rfl; conv => whnf)
          have hg := cntE.eq_1 p.states.length (q.bad.getD k cnt0)
          refine cmpI (fun h4 => ?_) (fun h4 => ?_) <;> conv => whnf
          · rw [orL_nz h4] at hg
            rw [hg, if_pos h4] at hr
            rw [hr, orL_nz h4] at he
            exact ⟨av_int he.symm, rfl⟩
          refine needI (by omega) ?_
          rw [Int.toNat_natCast]
          conv => whnf
          rw [orL_z (by omega)] at hg
          by_cases hc : (q.bad.getD k cnt0).states.length = 0 ∨ (q.bad.getD k cnt0).least < 1 ∨ 3 < (q.bad.getD k cnt0).least
          · rw [if_pos hc] at hg
            rw [hg] at hr
            rw [hr] at he
            by_cases hz : (q.bad.getD k cnt0).states.length = 0
            · repeat' (first
                  | (refine needI (by first | omega | (dsimp only; omega)) ?_; conv => whnf)
                  | (refine arI trivial (by omega) ?_; conv => whnf)
                  | (refine cmpT (by omega) ?_; conv => whnf)
                  | (refine cmpF (by omega) ?_; conv => whnf)
                  | fail)
              exact ⟨av_int he.symm, rfl⟩
            · repeat' (first
                  | (refine needI (by first | omega | (dsimp only; omega)) ?_; conv => whnf)
                  | (refine arI trivial (by omega) ?_; conv => whnf)
                  | (refine cmpT (by omega) ?_; conv => whnf)
                  | (refine cmpF (by omega) ?_; conv => whnf)
                  | fail)
              refine Spec.dcall (n := 5) (withinR _ _ _) rfl (fun _ => ?_) (fun _ => ?_) <;> (conv => whnf)
              · rename_i h; rw [Int.toNat_natCast] at h; omega
              · exact ⟨av_int he.symm, rfl⟩
          · rw [if_neg hc] at hg
            rw [hg] at hr
            repeat' (first
                | (refine needI (by first | omega | (dsimp only; omega)) ?_; conv => whnf)
                | (refine arI trivial (by omega) ?_; conv => whnf)
                | (refine cmpT (by omega) ?_; conv => whnf)
                | (refine cmpF (by omega) ?_; conv => whnf)
                | fail)
            refine Spec.dcall (n := 5) (withinR _ _ _) rfl (fun _ => ?_) (fun _ => ?_) <;> (conv => whnf)
            · repeat' (first
                  | (refine needI (by first | omega | (dsimp only; omega)) ?_; conv => whnf)
                  | (refine arI trivial (by omega) ?_; conv => whnf)
                  | (refine cmpT (by omega) ?_; conv => whnf)
                  | (refine cmpF (by omega) ?_; conv => whnf)
                  | fail)
              exact ⟨k + 1, (Sub.id_ 400 rfl auto_ auto_), ⟨by omega, hr⟩, by dsimp only; omega⟩
            · rename_i h; rw [Int.toNat_natCast] at h; omega
      rw [List.drop_of_length_le (by omega)] at hr
      rw [orL_z hr] at he
      have he : propE p q = (if adjE p q.adjacent ≠ 0 then adjE p q.adjacent else 0) := he
      have ha' := adjE.eq_1 p q.adjacent
      by_cases h0 : q.adjacent.length = 0
      · rw [if_pos h0] at ha'
        rw [ha'] at he
        first
        | (exfalso; omega)
        | skip
          repeat' (first
              | (refine needI (by first | omega | (dsimp only; omega)) ?_; conv => whnf)
              | (refine arI trivial (by omega) ?_; conv => whnf)
              | (refine cmpT (by omega) ?_; conv => whnf)
              | (refine cmpF (by omega) ?_; conv => whnf)
              | fail)
          refine WPc.loopF tt_ok mx_ok (fun i : Nat => i = 0) (fun i => [(12, .int .i64 (i : Int))]) (fun _ => []) (fun _ => 0) 0 rfl ?_; conv => whnf
          refine ⟨(Sub.id_ 400 rfl auto_ auto_), ?_⟩
          rintro i rfl
          conv => whnf
          repeat' (first
              | (refine needI (by first | omega | (dsimp only; omega)) ?_; conv => whnf)
              | (refine arI trivial (by omega) ?_; conv => whnf)
              | (refine cmpT (by omega) ?_; conv => whnf)
              | (refine cmpF (by omega) ?_; conv => whnf)
              | fail)
          exact ⟨av_int he.symm, rfl⟩
      rw [if_neg h0] at ha'
      by_cases ht : p.topology = 1
      · rw [if_pos ht] at ha'
        rw [ha'] at he
        repeat' (first
            | (refine needI (by first | omega | (dsimp only; omega)) ?_; conv => whnf)
            | (refine arI trivial (by omega) ?_; conv => whnf)
            | (refine cmpT (by omega) ?_; conv => whnf)
            | (refine cmpF (by omega) ?_; conv => whnf)
            | fail)
        exact ⟨av_int he.symm, rfl⟩
      rw [if_neg ht] at ha'
      by_cases h2' : q.adjacent.length ≠ 2
      · rw [if_pos h2'] at ha'
        rw [ha'] at he
        repeat' (first
            | (refine needI (by first | omega | (dsimp only; omega)) ?_; conv => whnf)
            | (refine arI trivial (by omega) ?_; conv => whnf)
            | (refine cmpT (by omega) ?_; conv => whnf)
            | (refine cmpF (by omega) ?_; conv => whnf)
            | fail)
        exact ⟨av_int he.symm, rfl⟩
      rw [if_neg h2'] at ha'
      repeat' (first
          | (refine needI (by first | omega | (dsimp only; omega)) ?_; conv => whnf)
          | (refine arI trivial (by omega) ?_; conv => whnf)
          | (refine cmpT (by omega) ?_; conv => whnf)
          | (refine cmpF (by omega) ?_; conv => whnf)
          | fail)
      refine WPc.loopF tt_ok mx_ok (fun i : Nat => i ≤ 2 ∧ ∀ j, j < i → 0 ≤ q.adjacent.getD j 0 ∧ q.adjacent.getD j 0 < p.states.length) (fun i => [(12, .int .i64 (i : Int))]) (fun _ => []) (fun i => 2 - i) 0 ⟨by omega, fun j hj => by omega⟩ ?_; conv => whnf
      refine ⟨(Sub.id_ 400 rfl auto_ auto_), ?_⟩
      rintro i ⟨hi, hin⟩
      conv => whnf
      refine cmpI (fun h5 => ?_) (fun h5 => ?_) <;> conv => whnf
      · refine needI (by omega) ?_
        rw [Int.toNat_natCast]
        conv => whnf
        repeat' (first
            | (refine needI (by first | omega | (dsimp only; omega)) ?_; conv => whnf)
            | (refine arI trivial (by omega) ?_; conv => whnf)
            | (refine cmpT (by omega) ?_; conv => whnf)
            | (refine cmpF (by omega) ?_; conv => whnf)
            | fail)
        refine Spec.dcall (n := 5) (withinR _ _ _) rfl (fun _ => ?_) (fun _ => ?_) <;> (conv => whnf)
        · rename_i h6
          repeat' (first
              | (refine needI (by first | omega | (dsimp only; omega)) ?_; conv => whnf)
              | (refine arI trivial (by omega) ?_; conv => whnf)
              | (refine cmpT (by omega) ?_; conv => whnf)
              | (refine cmpF (by omega) ?_; conv => whnf)
              | fail)
          refine ⟨i + 1, (Sub.id_ 400 rfl auto_ auto_), ⟨by omega, fun j hj => ?_⟩, by dsimp only; omega⟩
          by_cases e : j = i
          · subst e; omega
          · exact hin j (by omega)
        · rename_i h6
          have h7 : adjE p q.adjacent = 5 := by
            rw [ha']
            have hi2 : i = 0 ∨ i = 1 := by omega
            rcases hi2 with rfl | rfl
            · rw [orL_nz (by rw [indE, if_pos (by omega)]; decide), indE, if_pos (by omega)]
            · have := hin 0 (by omega)
              rw [orL_z (by rw [indE, if_neg (by omega)]), orL_nz (by rw [indE, if_pos (by omega)]; decide), indE, if_pos (by omega)]
          rw [h7] at he
          exact ⟨av_int he.symm, rfl⟩
      · have h7 : adjE p q.adjacent = 0 := by
          rw [ha']
          have a0 := hin 0 (by omega)
          have a1 := hin 1 (by omega)
          rw [orL_z (by rw [indE, if_neg (by omega)]), orL_z (by rw [indE, if_neg (by omega)])]; rfl
        rw [h7] at he
        exact ⟨av_int he.symm, rfl⟩
  · rw [if_pos (by omega)] at he
    (refine Spec.of_pure (n := 5) (setR q.goal _ (by omega) (by omega)) rfl ?_; rintro _ rfl; conv => whnf)
    refine cmpI (fun h4 => ?_) (fun h4 => ?_) <;> conv => whnf
    · rw [orL_nz h4] at he; exact ⟨av_int he.symm, rfl⟩
    rw [orL_z (by omega)] at he
    by_cases h5 : q.goal.length = 0
    · rw [if_pos h5] at he
      repeat' (first
          | (refine needI (by first | omega | (dsimp only; omega)) ?_; conv => whnf)
          | (refine arI trivial (by omega) ?_; conv => whnf)
          | (refine cmpT (by omega) ?_; conv => whnf)
          | (refine cmpF (by omega) ?_; conv => whnf)
          | fail)
      exact ⟨av_int he.symm, rfl⟩
    · rw [if_neg h5] at he
      repeat' (first
          | (refine needI (by first | omega | (dsimp only; omega)) ?_; conv => whnf)
          | (refine arI trivial (by omega) ?_; conv => whnf)
          | (refine cmpT (by omega) ?_; conv => whnf)
          | (refine cmpF (by omega) ?_; conv => whnf)
          | fail)
      exact ⟨av_int he.symm, rfl⟩
end Go.Proofs.YtcbckmnbdcjeeaaGreatDoor
