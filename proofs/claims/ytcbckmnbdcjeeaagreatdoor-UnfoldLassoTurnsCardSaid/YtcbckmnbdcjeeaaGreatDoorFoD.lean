
/-
  Bad, by the program and by the document's answer; the law UnfoldJudges.
-/
import Derived.Test.YtcbckmnbdcjeeaaGreatDoorFoC
set_option linter.unusedVariables false
set_option linter.unusedSimpArgs false
namespace Go.Proofs.YtcbckmnbdcjeeaaGreatDoor
set_option maxRecDepth 100000
set_option maxHeartbeats 8000000

def cokB (q : Prp) (c : Cfg) : Prop := ∀ j, j < q.bad.length → (q.bad.getD j cnt0).least ≤ hitN (q.bad.getD j cnt0).states (c.states.take c.correct.toNat)
def badB (p : Pro) (q : Prp) (c : Cfg) : Prop := cokB q c ∧ (q.adjacent.length = 0 ∨ adjB p c q.adjacent)
noncomputable instance decBad (p : Pro) (q : Prp) (c : Cfg) : Decidable (badB p q c) := Classical.propDecidable _
theorem hit_zero (S L : List Int) : hitN (S.take 0) L = 0 := by
  simp [hitN]
theorem hit_zero' (S L : List Int) : hitN S (L.take 0) = 0 := by
  simp [hitN]
theorem hit_up {S L : List Int} {i : Nat} (hi : incr S) (h : i < S.length) : hitN (S.take (i + 1)) L = hitN (S.take i) L + L.count (S.getD i 0) := by
  have e : S.getD i 0 = S[i] := by rw [List.getD_eq_getElem?_getD, List.getElem?_eq_getElem h]; rfl
  have := hit_snoc (incr_fresh hi h) L
  rw [List.take_succ_eq_append_getElem h, ← e]
  exact this
theorem badF (p : Pro) (q : Prp) (c : Cfg) (hp : ¬ bigP p) (hq : ¬ bigQ q) (hw : wideB c = false) (hpl : plB p c) (hok : (∀ j, j < q.bad.length → inR (q.bad.getD j cnt0).states p.states.length ∧ incr (q.bad.getD j cnt0).states) ∧ (q.adjacent.length = 0 ∨ q.adjacent.length = 2)) : PSpec Tryz.prog 36 [.agg (encP p), .agg (encQ q), .agg (encC c)] (fun u => u = .bool (decide (badB p q c))) := by
  have hle := bigP_le hp
  have hlq := bigQ_le hq
  have hc := wide_le hw
  have hL : (c.states.take c.correct.toNat).length ≤ 100 := by rw [List.length_take]; omega
  refine PSpec.intro tt_ok mx_ok Tryz.func36 rfl (by decide) ?_; (conv => whnf)
  refine boxP rfl ?_
  conv => whnf
  refine boxP rfl ?_
  conv => whnf
  refine boxP rfl ?_
  conv => whnf
  (refine Spec.of_pure (n := 5) (countsF p c hp hw hpl) rfl ?_; rintro _ rfl; conv => whnf)
  have hcl := cntL_len p.states.length (c.states.take c.correct.toNat)
  refine WPc.loopF tt_ok mx_ok (fun k : Nat => k ≤ q.bad.length ∧ ∀ j, j < k → (q.bad.getD j cnt0).least ≤ hitN (q.bad.getD j cnt0).states (c.states.take c.correct.toNat)) (fun k => [(19, .int .i64 (k : Int))]) (fun _ => []) (fun k => q.bad.length - k) 0 ⟨by omega, fun j hj => by omega⟩ ?_; conv => whnf
  refine ⟨(Sub.id_ 400 rfl auto_ auto_), ?_⟩
  rintro k ⟨hk, ha⟩
  conv => whnf
  refine cmpI (fun h1 => ?_) (fun h1 => ?_) <;> conv => whnf
  · have hlen := bigQ_cnt hq k (by omega)
    obtain ⟨hg1, hg2⟩ := hok.1 k (by omega)
    have next : (q.bad.getD k cnt0).least ≤ hitN (q.bad.getD k cnt0).states (c.states.take c.correct.toNat) → ∀ j, j < k + 1 → (q.bad.getD j cnt0).least ≤ hitN (q.bad.getD j cnt0).states (c.states.take c.correct.toNat) := fun h j hj => by
      by_cases e : j = k
      · subst e; exact h
      · exact ha j (by omega)
    have nok : ¬ (q.bad.getD k cnt0).least ≤ hitN (q.bad.getD k cnt0).states (c.states.take c.correct.toNat) → ¬ badB p q c := fun h hb => h (hb.1 k (by omega))
    refine needI (by omega) ?_
    rw [Int.toNat_natCast]
    generalize q.bad.getD k cnt0 = g at hlen hg1 hg2 next nok
    conv => whnf
    have h00 := hit_zero g.states (c.states.take c.correct.toNat)
    refine WPc.loopF tt_ok mx_ok (fun i : Nat => i ≤ g.states.length) (fun i => [(26, .int .i64 (i : Int)), (10, .int .i64 (hitN (g.states.take i) (c.states.take c.correct.toNat) : Int))]) (fun _ => [(9, .box 74 [.sl 0 encI g.states, .int .i64 g.least])]) (fun i => g.states.length - i) 0 (Nat.zero_le _) ?_; conv => whnf
    refine ⟨(Sub.id_ 400 rfl auto_ auto_), ?_⟩
    rintro i hi
    conv => whnf
    refine cmpI (fun h2 => ?_) (fun h2 => ?_) <;> conv => whnf
    · have h3 := hg1 i (by omega)
      have h4 := hit_up (L := c.states.take c.correct.toNat) hg2 (i := i) (by omega)
      have h5 := hit_le (g.states.take i) (c.states.take c.correct.toNat)
      have h6 : (c.states.take c.correct.toNat).count (g.states.getD i 0) ≤ (c.states.take c.correct.toNat).length := List.count_le_length
      refine needI (by omega) ?_
      rw [Int.toNat_natCast]
      conv => whnf
      refine needI (by omega) ?_
      rw [cntL_at _ (by omega), show ((g.states.getD i 0).toNat : Int) = g.states.getD i 0 by omega]
      conv => whnf
      repeat' (first
          | (refine needI (by first | omega | (dsimp only; omega)) ?_; conv => whnf)
          | (refine arI trivial (by omega) ?_; conv => whnf)
          | (refine cmpT (by omega) ?_; conv => whnf)
          | (refine cmpF (by omega) ?_; conv => whnf)
          | fail)
      exact ⟨i + 1, (Sub.id_ 400 rfl auto_ auto_), by omega, by dsimp only; omega⟩
    · obtain rfl : i = g.states.length := by omega
      rw [List.take_length]
      refine cmpI (fun h3 => ?_) (fun h3 => ?_) <;> conv => whnf
      · exact ⟨dec_f (nok (by omega)), rfl⟩
      · repeat' (first
            | (refine needI (by first | omega | (dsimp only; omega)) ?_; conv => whnf)
            | (refine arI trivial (by omega) ?_; conv => whnf)
            | (refine cmpT (by omega) ?_; conv => whnf)
            | (refine cmpF (by omega) ?_; conv => whnf)
            | fail)
        exact ⟨k + 1, (Sub.id_ 400 rfl auto_ auto_), ⟨by omega, next (by omega)⟩, by dsimp only; omega⟩
  have hcok : cokB q c := fun j hj => ha j (by omega)
  by_cases h2 : q.adjacent.length = 0
  · repeat' (first
        | (refine needI (by first | omega | (dsimp only; omega)) ?_; conv => whnf)
        | (refine arI trivial (by omega) ?_; conv => whnf)
        | (refine cmpT (by omega) ?_; conv => whnf)
        | (refine cmpF (by omega) ?_; conv => whnf)
        | fail)
    exact ⟨dec_t ⟨hcok, .inl h2⟩, rfl⟩
  · repeat' (first
        | (refine needI (by first | omega | (dsimp only; omega)) ?_; conv => whnf)
        | (refine arI trivial (by omega) ?_; conv => whnf)
        | (refine cmpT (by omega) ?_; conv => whnf)
        | (refine cmpF (by omega) ?_; conv => whnf)
        | fail)
    refine Spec.dcall (n := 5) (adjacentF p c q.adjacent hw (by omega)) rfl (fun _ => ?_) (fun _ => ?_) <;> (conv => whnf)
    · rename_i h3; exact ⟨dec_t ⟨hcok, .inr h3⟩, rfl⟩
    · rename_i h3; exact ⟨dec_f (fun h => h.2.elim h2 h3), rfl⟩
end Go.Proofs.YtcbckmnbdcjeeaaGreatDoor
