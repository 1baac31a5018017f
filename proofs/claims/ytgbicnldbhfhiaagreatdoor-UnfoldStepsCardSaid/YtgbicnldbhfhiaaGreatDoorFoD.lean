
/-
  Bad, by the program and by the document's answer; the law UnfoldJudges.
-/
import Derived.Test.YtgbicnldbhfhiaaGreatDoorFoC
set_option linter.unusedVariables false
set_option linter.unusedSimpArgs false
namespace Go.Proofs.YtgbicnldbhfhiaaGreatDoor
set_option maxRecDepth 100000
set_option maxHeartbeats 8000000

def cokB (q : Prp) (c : Cfg) : Prop := ∀ j, j < q.bad.length → (q.bad.getD j cnt0).least ≤ hitN (q.bad.getD j cnt0).states (c.states.take c.correct.toNat)
def badB (p : Pro) (q : Prp) (c : Cfg) : Prop := cokB q c ∧ (q.adjacent.length = 0 ∨ adjB p c q.adjacent)
noncomputable instance decBad (p : Pro) (q : Prp) (c : Cfg) : Decidable (badB p q c) := Classical.propDecidable _
theorem hit_zero (S L : List Int) : hitN (S.take 0) L = 0 := by
  simp [hitN]
theorem hit_zero' (S L : List Int) : hitN S (L.take 0) = 0 := by
  simp [hitN]
theorem hit_up {S L : List Int} {i : Nat} (hi : incr S) (h : i < S.length) : hitN (S.take (i + 1)) L = hitN (S.take i) L + L.count (S.getD i 0) := by
  have e : S.getD i 0 = S[i] := by rw [List.getD_eq_getElem?_getD, List.getElem?_eq_getElem h]; rfl
  have := hit_snoc (incr_fresh hi h) L
  rw [List.take_succ_eq_append_getElem h, ← e]
  exact this
theorem badF (p : Pro) (q : Prp) (c : Cfg) (hp : ¬ bigP p) (hq : ¬ bigQ q) (hw : wideB c = false) (hpl : plB p c) (hok : (∀ j, j < q.bad.length → inR (q.bad.getD j cnt0).states p.states.length ∧ incr (q.bad.getD j cnt0).states) ∧ (q.adjacent.length = 0 ∨ q.adjacent.length = 2)) : PSpec Tryz.prog 62 [.agg (encP p), .agg (encQ q), .agg (encC c)] (fun u => u = .bool (decide (badB p q c))) := by
  have hle := bigP_le hp
  have hlq := bigQ_le hq
  have hc := wide_le hw
  have hL : (c.states.take c.correct.toNat).length ≤ 100 := by rw [List.length_take]; omega
  refine PSpec.intro tt_ok mx_ok Tryz.func62 rfl (by decide) ?_; (conv => whnf)
  refine boxP rfl ?_
  conv => whnf
  refine boxP rfl ?_
  conv => whnf
  refine boxP rfl ?_
  conv => whnf
  (refine Spec.of_pure (n := 5) (countsF p c hp hw hpl) rfl ?_; rintro _ rfl; conv => whnf)
  have hcl := cntL_len p.states.length (c.states.take c.correct.toNat)
  refine WPc.loopF tt_ok mx_ok (fun k : Nat => k ≤ q.bad.length ∧ ∀ j, j < k → (q.bad.getD j cnt0).least ≤ hitN (q.bad.getD j cnt0).states (c.states.take c.correct.toNat)) (fun k => [(19, .int .i64 (k : Int))]) (fun _ => []) (fun k => q.bad.length - k) 0 ⟨by omega, fun j hj => by omega⟩ ?_; conv => whnf
  refine ⟨(Sub.id_ 400 rfl auto_ auto_), ?_⟩
  rintro k ⟨hk, ha⟩
  conv => whnf
  refine cmpI (fun h1 => ?_) (fun h1 => ?_) <;> conv => whnf
  · have hlen := bigQ_cnt hq k (by omega)
    obtain ⟨hg1, hg2⟩ := hok.1 k (by omega)
    have next : (q.bad.getD k cnt0).least ≤ hitN (q.bad.getD k cnt0).states (c.states.take c.correct.toNat) → ∀ j, j < k + 1 → (q.bad.getD j cnt0).least ≤ hitN (q.bad.getD j cnt0).states (c.states.take c.correct.toNat) := fun h j hj => by
      by_cases e : j = k
      · subst e; exact h
      · exact ha j (by omega)
    have nok : ¬ (q.bad.getD k cnt0).least ≤ hitN (q.bad.getD k cnt0).states (c.states.take c.correct.toNat) → ¬ badB p q c := fun h hb => h (hb.1 k (by omega))
    refine needI (by omega) ?_
    rw [Int.toNat_natCast]
    generalize q.bad.getD k cnt0 = g at hlen hg1 hg2 next nok
    conv => whnf
    have h00 := hit_zero g.states (c.states.take c.correct.toNat)
    refine WPc.loopF tt_ok mx_ok (fun i : Nat => i ≤ g.states.length) (fun i => [(26, .int .i64 (i : Int)), (10, .int .i64 (hitN (g.states.take i) (c.states.take c.correct.toNat) : Int))]) (fun _ => [(9, .box 123 [.sl 0 encI g.states, .int .i64 g.least])]) (fun i => g.states.length - i) 0 (Nat.zero_le _) ?_; conv => whnf
    refine ⟨(Sub.id_ 400 rfl auto_ auto_), ?_⟩
    rintro i hi
    conv => whnf
    refine cmpI (fun h2 => ?_) (fun h2 => ?_) <;> conv => whnf
    · have h3 := hg1 i (by omega)
      have h4 := hit_up (L := c.states.take c.correct.toNat) hg2 (i := i) (by omega)
      have h5 := hit_le (g.states.take i) (c.states.take c.correct.toNat)
      have h6 : (c.states.take c.correct.toNat).count (g.states.getD i 0) ≤ (c.states.take c.correct.toNat).length := List.count_le_length
      refine needI (by omega) ?_
      rw [Int.toNat_natCast]
      conv => whnf
      refine needI (by omega) ?_
      rw [cntL_at _ (by omega), show ((g.states.getD i 0).toNat : Int) = g.states.getD i 0 by omega]
      conv => whnf
      repeat' (first
          | (refine needI (by first | omega | (dsimp only; omega)) ?_; conv => whnf)
          | (refine arI trivial (by omega) ?_; conv => whnf)
          | (refine cmpT (by omega) ?_; conv => whnf)
          | (refine cmpF (by omega) ?_; conv => whnf)
          | fail)
      exact ⟨i + 1, (Sub.id_ 400 rfl auto_ auto_), by omega, by dsimp only; omega⟩
    · obtain rfl : i = g.states.length := by omega
      rw [List.take_length]
      refine cmpI (fun h3 => ?_) (fun h3 => ?_) <;> conv => whnf
      · exact ⟨dec_f (nok (by omega)), rfl⟩
      · repeat' (first
            | (refine needI (by first | omega | (dsimp only; omega)) ?_; conv => whnf)
            | (refine arI trivial (by omega) ?_; conv => whnf)
            | (refine cmpT (by omega) ?_; conv => whnf)
            | (refine cmpF (by omega) ?_; conv => whnf)
            | fail)
        exact ⟨k + 1, (Sub.id_ 400 rfl auto_ auto_), ⟨by omega, next (by omega)⟩, by dsimp only; omega⟩
  have hcok : cokB q c := fun j hj => ha j (by omega)
  by_cases h2 : q.adjacent.length = 0
  · repeat' (first
        | (refine needI (by first | omega | (dsimp only; omega)) ?_; conv => whnf)
        | (refine arI trivial (by omega) ?_; conv => whnf)
        | (refine cmpT (by omega) ?_; conv => whnf)
        | (refine cmpF (by omega) ?_; conv => whnf)
        | fail)
    exact ⟨dec_t ⟨hcok, .inl h2⟩, rfl⟩
  · repeat' (first
        | (refine needI (by first | omega | (dsimp only; omega)) ?_; conv => whnf)
        | (refine arI trivial (by omega) ?_; conv => whnf)
        | (refine cmpT (by omega) ?_; conv => whnf)
        | (refine cmpF (by omega) ?_; conv => whnf)
        | fail)
    refine Spec.dcall (n := 5) (adjacentF p c q.adjacent hw (by omega)) rfl (fun _ => ?_) (fun _ => ?_) <;> (conv => whnf)
    · rename_i h3; exact ⟨dec_t ⟨hcok, .inr h3⟩, rfl⟩
    · rename_i h3; exact ⟨dec_f (fun h => h.2.elim h2 h3), rfl⟩
theorem badR (p : Pro) (q : Prp) (c : Cfg) (hp : ¬ bigP p) (hq : ¬ bigQ q) (hw : wideB c = false) (hpl : plB p c) (hok : q.adjacent.length = 0 ∨ q.adjacent.length = 2) : PSpec Tryz.prog 63 [.agg (encP p), .agg (encQ q), .agg (encC c)] (fun u => u = .bool (decide (badB p q c))) := by
  have hle := bigP_le hp
  have hlq := bigQ_le hq
  have hc := wide_le hw
  obtain ⟨hin, hc0, hc1⟩ := hpl
  refine PSpec.intro tt_ok mx_ok Tryz.func63 rfl (by decide) ?_; (conv => whnf)
  refine boxP rfl ?_
  conv => whnf
  refine boxP rfl ?_
  conv => whnf
  refine boxP rfl ?_
  conv => whnf
  refine WPc.loopF tt_ok mx_ok (fun k : Nat => k ≤ q.bad.length ∧ ∀ j, j < k → (q.bad.getD j cnt0).least ≤ hitN (q.bad.getD j cnt0).states (c.states.take c.correct.toNat)) (fun k => [(7, .int .i64 (k : Int))]) (fun _ => []) (fun k => q.bad.length - k) 0 ⟨by omega, fun j hj => by omega⟩ ?_; conv => whnf
  refine ⟨(Sub.id_ 400 rfl auto_ auto_), ?_⟩
  rintro k ⟨hk, ha⟩
  conv => whnf
  refine cmpI (fun h1 => ?_) (fun h1 => ?_) <;> conv => whnf
  · have hlen := bigQ_cnt hq k (by omega)
    have next : (q.bad.getD k cnt0).least ≤ hitN (q.bad.getD k cnt0).states (c.states.take c.correct.toNat) → ∀ j, j < k + 1 → (q.bad.getD j cnt0).least ≤ hitN (q.bad.getD j cnt0).states (c.states.take c.correct.toNat) := fun h j hj => by
      by_cases e : j = k
      · subst e; exact h
      · exact ha j (by omega)
    have nok : ¬ (q.bad.getD k cnt0).least ≤ hitN (q.bad.getD k cnt0).states (c.states.take c.correct.toNat) → ¬ badB p q c := fun h hb => h (hb.1 k (by omega))
    have h00 := hit_zero' (q.bad.getD k cnt0).states c.states
    refine WPc.loopF tt_ok mx_ok (fun i : Nat => i ≤ c.correct.toNat) (fun i => [(9, .int .i64 (i : Int)), (8, .int .i64 (hitN (q.bad.getD k cnt0).states (c.states.take i) : Int))]) (fun _ => []) (fun i => c.correct.toNat - i) 0 (Nat.zero_le _) ?_; conv => whnf
    refine ⟨(Sub.id_ 400 rfl auto_ auto_), ?_⟩
    rintro i hi
    conv => whnf
    refine cmpI (fun h2 => ?_) (fun h2 => ?_) <;> conv => whnf
    · have h4 := hit_take (S := (q.bad.getD k cnt0).states) (l := c.states) (k := i) (by omega)
      have h5 := hit_le (q.bad.getD k cnt0).states (c.states.take i)
      have h6 : (c.states.take i).length ≤ 100 := by rw [List.length_take]; omega
      refine drawI (by decide +kernel) ?_
      conv => whnf
      refine needI (by omega) ?_
      rw [Int.toNat_natCast]
      conv => whnf
      refine needI (by omega) ?_
      rw [Int.toNat_natCast]
      conv => whnf
      refine callD 5 (hasR (q.bad.getD k cnt0).states _ (by omega)) rfl (fun _ => ?_) (fun _ => ?_) <;> (conv => whnf)
      · rename_i h7
        rw [if_pos h7] at h4
        repeat' (first
            | (refine needI (by first | omega | (dsimp only; omega)) ?_; conv => whnf)
            | (refine arI trivial (by omega) ?_; conv => whnf)
            | (refine cmpT (by omega) ?_; conv => whnf)
            | (refine cmpF (by omega) ?_; conv => whnf)
            | fail)
        exact ⟨i + 1, (Sub.id_ 400 rfl auto_ auto_), by omega, by dsimp only; omega⟩
      · rename_i h7
        rw [if_neg h7] at h4
        repeat' (first
            | (refine needI (by first | omega | (dsimp only; omega)) ?_; conv => whnf)
            | (refine arI trivial (by omega) ?_; conv => whnf)
            | (refine cmpT (by omega) ?_; conv => whnf)
            | (refine cmpF (by omega) ?_; conv => whnf)
            | fail)
        exact ⟨i + 1, (Sub.id_ 400 rfl auto_ auto_), by omega, by dsimp only; omega⟩
    · obtain rfl : i = c.correct.toNat := by omega
      refine needI (by omega) ?_
      rw [Int.toNat_natCast]
      conv => whnf
      refine cmpI (fun h3 => ?_) (fun h3 => ?_) <;> conv => whnf
      · exact ⟨dec_f (nok (by omega)), rfl⟩
      · repeat' (first
            | (refine needI (by first | omega | (dsimp only; omega)) ?_; conv => whnf)
            | (refine arI trivial (by omega) ?_; conv => whnf)
            | (refine cmpT (by omega) ?_; conv => whnf)
            | (refine cmpF (by omega) ?_; conv => whnf)
            | fail)
        exact ⟨k + 1, (Sub.id_ 400 rfl auto_ auto_), ⟨by omega, next (by omega)⟩, by dsimp only; omega⟩
  have hcok : cokB q c := fun j hj => ha j (by omega)
  by_cases h2 : q.adjacent.length = 0
  · repeat' (first
        | (refine needI (by first | omega | (dsimp only; omega)) ?_; conv => whnf)
        | (refine arI trivial (by omega) ?_; conv => whnf)
        | (refine cmpT (by omega) ?_; conv => whnf)
        | (refine cmpF (by omega) ?_; conv => whnf)
        | fail)
    exact ⟨dec_t ⟨hcok, .inl h2⟩, rfl⟩
  repeat' (first
      | (refine needI (by first | omega | (dsimp only; omega)) ?_; conv => whnf)
      | (refine arI trivial (by omega) ?_; conv => whnf)
      | (refine cmpT (by omega) ?_; conv => whnf)
      | (refine cmpF (by omega) ?_; conv => whnf)
      | fail)
  refine WPc.loopF tt_ok mx_ok (fun i : Nat => i ≤ c.states.length ∧ ∀ j, j < i → ¬ adB p c (q.adjacent.getD 0 0) (q.adjacent.getD 1 0) j) (fun i => [(10, .int .i64 (i : Int))]) (fun _ => []) (fun i => c.states.length - i) 0 ⟨by omega, fun j hj => by omega⟩ ?_; conv => whnf
  refine ⟨(Sub.id_ 400 rfl auto_ auto_), ?_⟩
  rintro i ⟨hi, hai⟩
  conv => whnf
  refine cmpI (fun h3 => ?_) (fun h3 => ?_) <;> conv => whnf
  case refine_2 => exact ⟨dec_f (fun h => h.2.elim h2 (fun ⟨j, hj, h⟩ => hai j (by omega) h)), rfl⟩
  have hlt := nb_lt (t := p.topology) (l := c.shape) (n := c.states.length) (i := i) (by omega)
  have next : ¬ adB p c (q.adjacent.getD 0 0) (q.adjacent.getD 1 0) i → ∀ j, j < i + 1 → ¬ adB p c (q.adjacent.getD 0 0) (q.adjacent.getD 1 0) j := fun h j hj => by
    by_cases e : j = i
    · subst e; exact h
    · exact hai j (by omega)
  refine drawI (by decide +kernel) ?_
  conv => whnf
  refine needI (by omega) ?_
  rw [Int.toNat_natCast]
  conv => whnf
  refine needI (by omega) ?_
  conv => whnf
  refine cmpI (fun h4 => ?_) (fun h4 => ?_) <;> conv => whnf
  · repeat' (first
        | (refine needI (by first | omega | (dsimp only; omega)) ?_; conv => whnf)
        | (refine arI trivial (by omega) ?_; conv => whnf)
        | (refine cmpT (by omega) ?_; conv => whnf)
        | (refine cmpF (by omega) ?_; conv => whnf)
        | fail)
    exact ⟨i + 1, (Sub.id_ 400 rfl auto_ auto_), ⟨by omega, next (fun h => h4 h.1)⟩, by dsimp only; omega⟩
  have h4' : c.states.getD i 0 = q.adjacent.getD 0 0 := by
    by_cases e : c.states.getD i 0 = q.adjacent.getD 0 0
    · exact e
    · exact absurd e h4
  have hN : PSpec Tryz.prog 73 [.int .i64 p.topology, .sl 0 encI c.shape, .int .i64 (c.states.length : Int), .int .i64 (i : Int)] (fun u => u = .tup [.int .i64 (nbF p.topology c.shape c.states.length i), .int .i64 (nbS p.topology c.shape c.states.length i), .int .i64 (nbP p.topology c.shape c.states.length i)]) := by
    have hN := neighborsR p.topology c.shape c.states.length i (by omega) (by omega) (by omega)
    rw [nbr_link (by omega)] at hN
    exact hN
  (refine Spec.of_pure (n := 5) (hN) rfl ?_; rintro _ rfl; conv => whnf)
  refine drawI (by decide +kernel) ?_
  conv => whnf
  by_cases hS : nearB c (nbS p.topology c.shape c.states.length i) (q.adjacent.getD 1 0)
  · refine cmpT hS.1 ?_
    conv => whnf
    refine needI (by have := hS.1; omega) ?_
    conv => whnf
    refine needI (by omega) ?_
    conv => whnf
    refine cmpT hS.2 ?_
    conv => whnf
    exact ⟨dec_t ⟨hcok, .inr ⟨i, by omega, h4', .inl hS⟩⟩, rfl⟩
  refine cmpI (fun h5 => ?_) (fun h5 => ?_) <;> conv => whnf
  case' refine_1 =>
    refine needI (by omega) ?_
    conv => whnf
    refine needI (by omega) ?_
    conv => whnf
    refine cmpF (fun h => hS ⟨h5, h⟩) ?_
    conv => whnf
  all_goals
    refine drawI (by decide +kernel) ?_
    conv => whnf
    by_cases hF : p.topology = 4 ∧ nearB c (nbF p.topology c.shape c.states.length i) (q.adjacent.getD 1 0)
    · refine cmpT hF.1 ?_
      conv => whnf
      refine cmpT hF.2.1 ?_
      conv => whnf
      refine needI (by have := hF.2.1; omega) ?_
      conv => whnf
      refine needI (by omega) ?_
      conv => whnf
      refine cmpT hF.2.2 ?_
      conv => whnf
      exact ⟨dec_t ⟨hcok, .inr ⟨i, by omega, h4', .inr hF⟩⟩, rfl⟩
    have nx := next (fun h => h.2.elim hS hF)
    refine cmpI (fun h6 => ?_) (fun h6 => ?_) <;> conv => whnf
    · refine cmpI (fun h7 => ?_) (fun h7 => ?_) <;> conv => whnf
      · refine needI (by omega) ?_
        conv => whnf
        refine needI (by omega) ?_
        conv => whnf
        refine cmpF (fun h => hF ⟨h6, h7, h⟩) ?_
        conv => whnf
        repeat' (first
            | (refine needI (by first | omega | (dsimp only; omega)) ?_; conv => whnf)
            | (refine arI trivial (by omega) ?_; conv => whnf)
            | (refine cmpT (by omega) ?_; conv => whnf)
            | (refine cmpF (by omega) ?_; conv => whnf)
            | fail)
        exact ⟨i + 1, (Sub.id_ 400 rfl auto_ auto_), ⟨by omega, nx⟩, by dsimp only; omega⟩
      · repeat' (first
            | (refine needI (by first | omega | (dsimp only; omega)) ?_; conv => whnf)
            | (refine arI trivial (by omega) ?_; conv => whnf)
            | (refine cmpT (by omega) ?_; conv => whnf)
            | (refine cmpF (by omega) ?_; conv => whnf)
            | fail)
        exact ⟨i + 1, (Sub.id_ 400 rfl auto_ auto_), ⟨by omega, nx⟩, by dsimp only; omega⟩
    · repeat' (first
          | (refine needI (by first | omega | (dsimp only; omega)) ?_; conv => whnf)
          | (refine arI trivial (by omega) ?_; conv => whnf)
          | (refine cmpT (by omega) ?_; conv => whnf)
          | (refine cmpF (by omega) ?_; conv => whnf)
          | fail)
      exact ⟨i + 1, (Sub.id_ 400 rfl auto_ auto_), ⟨by omega, nx⟩, by dsimp only; omega⟩
end Go.Proofs.YtgbicnldbhfhiaaGreatDoor
