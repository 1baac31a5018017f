
/-
  Names: the two functions that tell them.
-/
import Derived.Test.YtcbckmnbdcjeeaaGreatDoorFnO
set_option linter.unusedVariables false
set_option linter.unusedSimpArgs false
namespace Go.Proofs.YtcbckmnbdcjeeaaGreatDoor
set_option maxRecDepth 100000

def okB (c : Nat) : Prop := 97 ≤ c ∧ c ≤ 122 ∨ 48 ≤ c ∧ c ≤ 57 ∨ c = 95
instance (c : Nat) : Decidable (okB c) := inferInstanceAs (Decidable (_ ∨ _))
def validN (s : ByteArray) : Prop := (0 < s.size ∧ s.size ≤ 12) ∧ (97 ≤ byt s 0 ∧ byt s 0 ≤ 122) ∧ (∀ i, i < s.size → okB (byt s i)) ∧ s ∉ words
instance (s : ByteArray) : Decidable (validN s) := inferInstanceAs (Decidable (_ ∧ _))

theorem get_byt {s : ByteArray} {k : Nat} (h : k < s.size) : (s.get! (k + 0)).toNat = byt s k := by
  unfold byt
  congr 1
theorem decode_lo {s : ByteArray} {k : Nat} (h : k < s.size) (hb : byt s k < 128) : Utf8.decode s k = (byt s k, 1) := by
  unfold Utf8.decode
  simp only [get_byt h]
  rw [if_pos hb]
theorem decode_hi {s : ByteArray} {k : Nat} (h : k < s.size) (hb : ¬ byt s k < 128) : 128 ≤ (Utf8.decode s k).1 := by
  unfold Utf8.decode
  simp only [get_byt h]
  rw [if_neg hb]
  (repeat' split) <;> simp only [Utf8.runeError, ge_iff_le, Bool.and_eq_true, decide_eq_true_eq] at * <;> omega

theorem size_eq0 {s : ByteArray} : s = t0 ↔ s.size = 0 := by
  constructor
  · rintro rfl; rfl
  · intro h
    cases s with | mk a =>
    have : a.size = 0 := h
    have : a = #[] := Array.eq_empty_of_size_eq_zero this
    rw [this]; rfl

theorem validNameP (s : ByteArray) (hs : s.size ≤ 1000) : PSpec Tryz.prog 52 [.str s] (fun u => u = .bool (decide (validN s))) := by
  refine PSpec.intro tt_ok mx_ok Tryz.func52 rfl (by decide) ?_; (conv => whnf)
  refine cmpI (fun h1 => ?_) (fun h1 => ?_) <;> conv => whnf
  · exact ⟨dec_f (fun h => by have := size_eq0.1 h1; have := h.1; omega), rfl⟩
  have h0 : s.size ≠ 0 := fun h => h1 (size_eq0.2 h)
  refine cmpI (fun h2 => ?_) (fun h2 => ?_) <;> conv => whnf
  · exact ⟨dec_f (fun h => by have := h.1; omega), rfl⟩
  refine WPc.loopF tt_ok mx_ok (fun k : Nat => k ≤ s.size ∧ ∀ j, j < k → okB (byt s j) ∧ (j = 0 → 97 ≤ byt s 0 ∧ byt s 0 ≤ 122)) (fun _ => []) (fun k => [(14, .iter s k)]) (fun k => s.size - k) 0 ⟨by omega, fun j hj => by omega⟩ ?_; conv => whnf
  refine ⟨(Sub.id_ 400 rfl auto_ auto_), ?_⟩
  rintro k ⟨hk, ha⟩
  conv => whnf
  refine nextI (fun h3 => ?_) (fun h3 => ?_) <;> conv => whnf
  · by_cases hb : byt s k < 128
    · rw [decode_lo h3 hb]
      by_cases hgood : okB (byt s k) ∧ (k = 0 → 97 ≤ byt s 0 ∧ byt s 0 ≤ 122)
      · obtain ⟨g1, g2⟩ := hgood
        have g3 : k = 0 → byt s k = byt s 0 := fun e => by rw [e]
        unfold okB at g1
        repeat' (first
            | (refine needI (by first | omega | (dsimp only; omega)) ?_; conv => whnf)
            | (refine arI trivial (by omega) ?_; conv => whnf)
            | (refine arU trivial (by omega) ?_; conv => whnf)
            | (refine arB trivial (by omega) ?_; conv => whnf)
            | (refine drawI (by decide +kernel) ?_; conv => whnf)
            | (refine drawR (by decide +kernel) ?_; conv => whnf)
            | (refine drawP (by decide +kernel) ?_; conv => whnf)
            | (refine boxP rfl ?_; conv => whnf)
            | (refine appI _ rfl (by first | omega | (dsimp only; omega) | (simp only [List.length_cons, List.length_nil, List.length_append]; omega)) ?_; conv => whnf)
            | (refine rowSetI _ rfl ?_; conv => whnf)
            | (refine cmpT (by omega) ?_; conv => whnf)
            | (refine cmpF (by omega) ?_; conv => whnf)
            | (refine cmpI (fun _ => ?_) (fun _ => ?_) <;> conv => whnf))
        all_goals
          refine ⟨k + 1, (Sub.id_ 400 rfl auto_ auto_), ⟨by omega, fun j hj => ?_⟩, by dsimp only; omega⟩
          by_cases e : j = k
          · subst e; exact ⟨g1, g2⟩
          · exact ha j (by omega)
      · have hbad : ¬ validN s := fun h => hgood ⟨h.2.2.1 k h3, fun _ => h.2.1⟩
        have g3 : k = 0 → byt s k = byt s 0 := fun e => by rw [e]
        unfold okB at hgood
        repeat' (first
            | (refine needI (by first | omega | (dsimp only; omega)) ?_; conv => whnf)
            | (refine arI trivial (by omega) ?_; conv => whnf)
            | (refine arU trivial (by omega) ?_; conv => whnf)
            | (refine arB trivial (by omega) ?_; conv => whnf)
            | (refine drawI (by decide +kernel) ?_; conv => whnf)
            | (refine drawR (by decide +kernel) ?_; conv => whnf)
            | (refine drawP (by decide +kernel) ?_; conv => whnf)
            | (refine boxP rfl ?_; conv => whnf)
            | (refine appI _ rfl (by first | omega | (dsimp only; omega) | (simp only [List.length_cons, List.length_nil, List.length_append]; omega)) ?_; conv => whnf)
            | (refine rowSetI _ rfl ?_; conv => whnf)
            | (refine cmpT (by omega) ?_; conv => whnf)
            | (refine cmpF (by omega) ?_; conv => whnf)
            | (refine cmpI (fun _ => ?_) (fun _ => ?_) <;> conv => whnf))
        all_goals exact ⟨dec_f hbad, rfl⟩
    · have hd := decode_hi h3 hb
      have hbad : ¬ validN s := fun h => by have := h.2.2.1 k h3; unfold okB at this; omega
      generalize Utf8.decode s k = x at hd
      obtain ⟨c, w⟩ := x
      dsimp only at hd ⊢
      repeat' (first
          | (refine needI (by first | omega | (dsimp only; omega)) ?_; conv => whnf)
          | (refine arI trivial (by omega) ?_; conv => whnf)
          | (refine arU trivial (by omega) ?_; conv => whnf)
          | (refine arB trivial (by omega) ?_; conv => whnf)
          | (refine drawI (by decide +kernel) ?_; conv => whnf)
          | (refine drawR (by decide +kernel) ?_; conv => whnf)
          | (refine drawP (by decide +kernel) ?_; conv => whnf)
          | (refine boxP rfl ?_; conv => whnf)
          | (refine appI _ rfl (by first | omega | (dsimp only; omega) | (simp only [List.length_cons, List.length_nil, List.length_append]; omega)) ?_; conv => whnf)
          | (refine rowSetI _ rfl ?_; conv => whnf)
          | (refine cmpT (by omega) ?_; conv => whnf)
          | (refine cmpF (by omega) ?_; conv => whnf)
          | (refine cmpI (fun _ => ?_) (fun _ => ?_) <;> conv => whnf))
      all_goals exact ⟨dec_f hbad, rfl⟩
  · have hall : (∀ i, i < s.size → okB (byt s i)) := fun i hi => (ha i (by omega)).1
    have hf := (ha 0 (by omega)).2 rfl
    refine Spec.dcall (n := 5) (isReservedF s) rfl (fun _ => ?_) (fun _ => ?_) <;> (conv => whnf)
    · rename_i h; exact ⟨dec_f (fun hh => hh.2.2.2 h), rfl⟩
    · rename_i h; exact ⟨dec_t ⟨by omega, hf, hall, h⟩, rfl⟩

theorem reservedR : PSpec Tryz.prog 112 [] (fun u => u = .sl t0 encT words) := by
  refine PSpec.intro tt_ok mx_ok Tryz.func112 rfl (by decide) ?_; (conv => whnf)
  refine bldI t0 encT words rfl ?_
  conv => whnf
  exact ⟨rfl, rfl⟩
theorem validNameR (s : ByteArray) (hs : s.size ≤ 1000) : PSpec Tryz.prog 61 [.str s] (fun u => u = .bool (decide (validN s))) := by
  refine PSpec.intro tt_ok mx_ok Tryz.func61 rfl (by decide) ?_; (conv => whnf)
  refine Spec.dcall (n := 5) (withinR _ _ _) rfl (fun _ => ?_) (fun _ => ?_) <;> (conv => whnf)
  · rename_i h0
    have e0 : ((s.data.getD (0 : Int).toNat 0).toNat : Int) = byt s 0 := rfl
    by_cases hf : 97 ≤ byt s 0 ∧ byt s 0 ≤ 122
    · repeat' (first
          | (refine needI (by first | omega | (dsimp only; omega)) ?_; conv => whnf)
          | (refine arI trivial (by omega) ?_; conv => whnf)
          | (refine arU trivial (by omega) ?_; conv => whnf)
          | (refine arB trivial (by omega) ?_; conv => whnf)
          | (refine drawI (by decide +kernel) ?_; conv => whnf)
          | (refine drawR (by decide +kernel) ?_; conv => whnf)
          | (refine drawP (by decide +kernel) ?_; conv => whnf)
          | (refine boxP rfl ?_; conv => whnf)
          | (refine appI _ rfl (by first | omega | (dsimp only; omega) | (simp only [List.length_cons, List.length_nil, List.length_append]; omega)) ?_; conv => whnf)
          | (refine rowSetI _ rfl ?_; conv => whnf)
          | (refine cmpT (by omega) ?_; conv => whnf)
          | (refine cmpF (by omega) ?_; conv => whnf)
          | (refine cmpI (fun _ => ?_) (fun _ => ?_) <;> conv => whnf))
      refine WPc.loopF tt_ok mx_ok (fun k : Nat => k ≤ s.size ∧ ∀ j, j < k → okB (byt s j)) (fun k => [(3, .int .i64 (k : Int))]) (fun _ => []) (fun k => s.size - k) 0 ⟨by omega, fun j hj => by omega⟩ ?_; conv => whnf
      refine ⟨(Sub.id_ 400 rfl auto_ auto_), ?_⟩
      rintro k ⟨hk, ha⟩
      conv => whnf
      refine cmpI (fun h1 => ?_) (fun h1 => ?_) <;> conv => whnf
      · have ek : ((s.data.getD (k : Int).toNat 0).toNat : Int) = byt s k := rfl
        by_cases hg : okB (byt s k)
        · have hg' := hg
          unfold okB at hg'
          repeat' (first
              | (refine needI (by first | omega | (dsimp only; omega)) ?_; conv => whnf)
              | (refine arI trivial (by omega) ?_; conv => whnf)
              | (refine arU trivial (by omega) ?_; conv => whnf)
              | (refine arB trivial (by omega) ?_; conv => whnf)
              | (refine drawI (by decide +kernel) ?_; conv => whnf)
              | (refine drawR (by decide +kernel) ?_; conv => whnf)
              | (refine drawP (by decide +kernel) ?_; conv => whnf)
              | (refine boxP rfl ?_; conv => whnf)
              | (refine appI _ rfl (by first | omega | (dsimp only; omega) | (simp only [List.length_cons, List.length_nil, List.length_append]; omega)) ?_; conv => whnf)
              | (refine rowSetI _ rfl ?_; conv => whnf)
              | (refine cmpT (by omega) ?_; conv => whnf)
              | (refine cmpF (by omega) ?_; conv => whnf)
              | (refine cmpI (fun _ => ?_) (fun _ => ?_) <;> conv => whnf))
          all_goals
            refine ⟨k + 1, (Sub.id_ 400 rfl auto_ auto_), ⟨by omega, fun j hj => ?_⟩, by dsimp only; omega⟩
            by_cases e : j = k
            · subst e; exact hg
            · exact ha j (by omega)
        · have hbad : ¬ validN s := fun h => hg (h.2.2.1 k (by omega))
          unfold okB at hg
          repeat' (first
              | (refine needI (by first | omega | (dsimp only; omega)) ?_; conv => whnf)
              | (refine arI trivial (by omega) ?_; conv => whnf)
              | (refine arU trivial (by omega) ?_; conv => whnf)
              | (refine arB trivial (by omega) ?_; conv => whnf)
              | (refine drawI (by decide +kernel) ?_; conv => whnf)
              | (refine drawR (by decide +kernel) ?_; conv => whnf)
              | (refine drawP (by decide +kernel) ?_; conv => whnf)
              | (refine boxP rfl ?_; conv => whnf)
              | (refine appI _ rfl (by first | omega | (dsimp only; omega) | (simp only [List.length_cons, List.length_nil, List.length_append]; omega)) ?_; conv => whnf)
              | (refine rowSetI _ rfl ?_; conv => whnf)
              | (refine cmpT (by omega) ?_; conv => whnf)
              | (refine cmpF (by omega) ?_; conv => whnf)
              | (refine cmpI (fun _ => ?_) (fun _ => ?_) <;> conv => whnf))
          all_goals exact ⟨dec_f hbad, rfl⟩
      · (refine Spec.of_pure (n := 5) (reservedR) rfl ?_; rintro _ rfl; conv => whnf)
        refine Spec.dcall (n := 5) (hasTextR words s (by decide)) rfl (fun _ => ?_) (fun _ => ?_) <;> (conv => whnf)
        · rename_i h; exact ⟨dec_f (fun hh => hh.2.2.2 h), rfl⟩
        · rename_i h; exact ⟨dec_t ⟨by omega, hf, fun i hi => ha i (by omega), h⟩, rfl⟩
    · repeat' (first
          | (refine needI (by first | omega | (dsimp only; omega)) ?_; conv => whnf)
          | (refine arI trivial (by omega) ?_; conv => whnf)
          | (refine arU trivial (by omega) ?_; conv => whnf)
          | (refine arB trivial (by omega) ?_; conv => whnf)
          | (refine drawI (by decide +kernel) ?_; conv => whnf)
          | (refine drawR (by decide +kernel) ?_; conv => whnf)
          | (refine drawP (by decide +kernel) ?_; conv => whnf)
          | (refine boxP rfl ?_; conv => whnf)
          | (refine appI _ rfl (by first | omega | (dsimp only; omega) | (simp only [List.length_cons, List.length_nil, List.length_append]; omega)) ?_; conv => whnf)
          | (refine rowSetI _ rfl ?_; conv => whnf)
          | (refine cmpT (by omega) ?_; conv => whnf)
          | (refine cmpF (by omega) ?_; conv => whnf)
          | (refine cmpI (fun _ => ?_) (fun _ => ?_) <;> conv => whnf))
      all_goals exact ⟨dec_f (fun h => hf h.2.1), rfl⟩
  · rename_i h0
    exact ⟨dec_f (fun h => h0 (by have := h.1; omega)), rfl⟩
end Go.Proofs.YtcbckmnbdcjeeaaGreatDoor
