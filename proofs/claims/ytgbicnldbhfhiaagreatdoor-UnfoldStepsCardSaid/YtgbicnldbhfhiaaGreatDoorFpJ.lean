
/-
  The enabled steps of a configuration, by the document's answer; the law UnfoldSteps.
-/
import Derived.Test.YtgbicnldbhfhiaaGreatDoorFpI
set_option linter.unusedVariables false
set_option linter.unusedSimpArgs false
namespace Go.Proofs.YtgbicnldbhfhiaaGreatDoor
set_option maxRecDepth 100000
set_option maxHeartbeats 16000000

theorem stP_none {p : Pro} {s : Siz} {c : Cfg} {r i : Nat} (h : c.states.getD i 0 ≠ (p.rules.getD r rul0).src) (m : Nat) : stP p s c r i m = [] := by
  unfold stP
  rw [List.filter_eq_nil_iff]
  intro x hx hd
  simp only [List.mem_map] at hx
  obtain ⟨k, _, rfl⟩ := hx
  have he := of_decide_eq_true hd
  exact h he.2.1
theorem stepsR (p : Pro) (s : Siz) (c : Cfg) (h : Rdy p s c) : PSpec Tryz.prog 60 [.agg (encP p), .agg (encZ s), .agg (encC c)] (fun u => u = .sl stp0 encX (stA p s c p.rules.length)) := by
  have hc := wide_le h.wide
  have hle := bigP_le h.big
  have hbA : ∀ k1, k1 ≤ p.rules.length → (stA p s c k1).length ≤ 30 * 10100 := fun k1 hk => by
    have h1 := stA_len p s c k1
    have h2 : c.states.length * (c.states.length + 1) ≤ 100 * 101 := Nat.mul_le_mul (by omega) (by omega)
    have h3 : k1 * (c.states.length * (c.states.length + 1)) ≤ 30 * 10100 := Nat.mul_le_mul (by omega) h2
    omega
  have hbI : ∀ k1 k2, k2 ≤ c.states.length → (stI p s c k1 k2).length ≤ 10100 := fun k1 k2 hk => by
    have h1 := stI_len p s c k1 k2
    have h2 : k2 * (c.states.length + 1) ≤ 100 * 101 := Nat.mul_le_mul (by omega) (by omega)
    omega
  have hbP := fun k1 k2 k3 => stP_len p s c k1 k2 k3
  refine PSpec.intro tt_ok mx_ok Tryz.func60 rfl (by decide) ?_; (conv => whnf)
  refine boxP rfl ?_
  conv => whnf
  refine boxP rfl ?_
  conv => whnf
  refine boxP rfl ?_
  conv => whnf
  refine WPc.loopF tt_ok mx_ok (fun k1 : Nat => k1 ≤ p.rules.length) (fun k1 => [(8, .int .i64 (k1 : Int)), (7, .row 1000 (stA p s c k1).length 3)]) (fun k1 => [(1000, rowX (stA p s c k1))]) (fun k1 => p.rules.length - k1) 0 (Nat.zero_le _) ?_; conv => whnf
  refine ⟨Sub.by_ [(1000, .nil 3)] _ 400 rfl (auto_) (auto_), ?_⟩
  rintro k1 hk1
  conv => whnf
  refine cmpI (fun g1 => ?_) (fun g1 => ?_) <;> conv => whnf
  · refine WPc.loopF tt_ok mx_ok (fun k2 : Nat => k2 ≤ c.states.length) (fun k2 => [(9, .int .i64 (k2 : Int)), (7, .row 1000 (stA p s c k1 ++ stI p s c k1 k2).length 3)]) (fun k2 => [(1000, rowX (stA p s c k1 ++ stI p s c k1 k2))]) (fun k2 => c.states.length - k2) 0 (Nat.zero_le _) ?_; conv => whnf
    have e0 : stA p s c k1 ++ stI p s c k1 0 = stA p s c k1 := by simp [stI]
    refine ⟨by rw [e0]; exact (Sub.id_ 400 rfl auto_ auto_), ?_⟩
    rintro k2 hk2
    conv => whnf
    refine cmpI (fun g2 => ?_) (fun g2 => ?_) <;> conv => whnf
    · refine drawI (by decide +kernel) ?_
      conv => whnf
      refine needI (by omega) ?_
      conv => whnf
      refine needI (by omega) ?_
      conv => whnf
      rw [Int.toNat_natCast, Int.toNat_natCast]
      refine cmpI (fun g3 => ?_) (fun g3 => ?_) <;> conv => whnf
      · have e2 : stA p s c k1 ++ stI p s c k1 (k2 + 1) = stA p s c k1 ++ stI p s c k1 k2 := by rw [stI_up, stP_none g3, List.append_nil]
        repeat' (first
            | (refine needI (by first | omega | (dsimp only; omega)) ?_; conv => whnf)
            | (refine arI trivial (by omega) ?_; conv => whnf)
            | (refine cmpT (by omega) ?_; conv => whnf)
            | (refine cmpF (by omega) ?_; conv => whnf)
            | fail)
        refine ⟨k2 + 1, ?_, by omega, by dsimp only; omega⟩
        dsimp only
        rw [e2]
        exact (Sub.id_ 400 rfl auto_ auto_)
      refine WPc.loopF tt_ok mx_ok (fun k3 : Nat => k3 ≤ c.states.length + 1) (fun k3 => [(10, .int .i64 ((k3 : Int) - 1)), (7, .row 1000 (stA p s c k1 ++ stI p s c k1 k2 ++ stP p s c k1 k2 k3).length 3)]) (fun k3 => [(1000, rowX (stA p s c k1 ++ stI p s c k1 k2 ++ stP p s c k1 k2 k3))]) (fun k3 => c.states.length + 1 - k3) 0 (Nat.zero_le _) ?_; conv => whnf
      have e1 : stA p s c k1 ++ stI p s c k1 k2 ++ stP p s c k1 k2 0 = stA p s c k1 ++ stI p s c k1 k2 := by simp [stP]
      refine ⟨by rw [e1]; exact (Sub.id_ 400 rfl auto_ auto_), ?_⟩
      rintro k3 hk3
      conv => whnf
      refine cmpI (fun g4 => ?_) (fun g4 => ?_) <;> conv => whnf
      · have hup := stP_up p s c k1 k2 k3
        have hl1 := hbA k1 hk1
        have hl2 := hbI k1 k2 hk2
        have hl3 := hbP k1 k2 k3
        have hll : (stA p s c k1 ++ stI p s c k1 k2 ++ stP p s c k1 k2 k3).length ≤ 1000000 := by simp only [List.length_append]; omega
        refine Spec.dcall (n := 5) (enabledR p s c ⟨k1, k2, (k3 : Int) - 1⟩ false h) rfl (fun _ => ?_) (fun _ => ?_) <;> (conv => whnf)
        · rename_i hen
          rw [if_pos hen] at hup
          refine bldI stp0 encX [⟨k1, k2, (k3 : Int) - 1⟩] rfl ?_
          conv => whnf
          refine appI [⟨k1, k2, (k3 : Int) - 1⟩] rfl (by simp only [List.length_cons, List.length_nil]; omega) ?_
          conv => whnf
          repeat' (first
              | (refine needI (by first | omega | (dsimp only; omega)) ?_; conv => whnf)
              | (refine arI trivial (by omega) ?_; conv => whnf)
              | (refine cmpT (by omega) ?_; conv => whnf)
              | (refine cmpF (by omega) ?_; conv => whnf)
              | fail)
          have e3 : stA p s c k1 ++ stI p s c k1 k2 ++ stP p s c k1 k2 (k3 + 1) = stA p s c k1 ++ stI p s c k1 k2 ++ stP p s c k1 k2 k3 ++ [⟨k1, k2, (k3 : Int) - 1⟩] := by rw [hup, ← List.append_assoc]
          refine ⟨k3 + 1, ?_, by omega, by dsimp only; omega⟩
          dsimp only
          rw [e3]
          exact Sub.by_ [(1000, .old 57)] _ 400 rfl (auto_) (auto_)
        · rename_i hen
          rw [if_neg hen, List.append_nil] at hup
          repeat' (first
              | (refine needI (by first | omega | (dsimp only; omega)) ?_; conv => whnf)
              | (refine arI trivial (by omega) ?_; conv => whnf)
              | (refine cmpT (by omega) ?_; conv => whnf)
              | (refine cmpF (by omega) ?_; conv => whnf)
              | fail)
          refine ⟨k3 + 1, ?_, by omega, by dsimp only; omega⟩
          dsimp only
          rw [hup]
          exact (Sub.id_ 400 rfl auto_ auto_)
      · have ek : k3 = c.states.length + 1 := by omega
        have e2 : stA p s c k1 ++ stI p s c k1 (k2 + 1) = stA p s c k1 ++ stI p s c k1 k2 ++ stP p s c k1 k2 k3 := by rw [ek, stI_up, List.append_assoc]
        repeat' (first
            | (refine needI (by first | omega | (dsimp only; omega)) ?_; conv => whnf)
            | (refine arI trivial (by omega) ?_; conv => whnf)
            | (refine cmpT (by omega) ?_; conv => whnf)
            | (refine cmpF (by omega) ?_; conv => whnf)
            | fail)
        refine ⟨k2 + 1, ?_, by omega, by dsimp only; omega⟩
        dsimp only
        rw [e2]
        exact (Sub.id_ 400 rfl auto_ auto_)
    · have ek : k2 = c.states.length := by omega
      have e2 : stA p s c (k1 + 1) = stA p s c k1 ++ stI p s c k1 k2 := by rw [ek, stA_up]
      repeat' (first
          | (refine needI (by first | omega | (dsimp only; omega)) ?_; conv => whnf)
          | (refine arI trivial (by omega) ?_; conv => whnf)
          | (refine cmpT (by omega) ?_; conv => whnf)
          | (refine cmpF (by omega) ?_; conv => whnf)
          | fail)
      refine ⟨k1 + 1, ?_, by omega, by dsimp only; omega⟩
      dsimp only
      rw [e2]
      exact (Sub.id_ 400 rfl auto_ auto_)
  · obtain rfl : k1 = p.rules.length := by omega
    exact ⟨rfl, rfl⟩
theorem StepsR (p : Pro) (s : Siz) (c : Cfg) (hp : ¬ bigP p) (hw : wideB c = false) : PSpec Tryz.prog 27 [.agg (encP p), .agg (encZ s), .agg (encC c)] (fun u => u = stE p s c) := by
  have he := stE.eq_1 p s c
  refine PSpec.sx (stE_form p s c) ?_
  refine PSpec.intro tt_ok mx_ok Tryz.func27 rfl (by decide) ?_; (conv => whnf)
  refine boxP rfl ?_
  conv => whnf
  refine boxP rfl ?_
  conv => whnf
  refine boxP rfl ?_
  conv => whnf
  (refine Spec.of_pure (n := 5) (ValidConfigR p s c hp hw) rfl ?_; rintro _ rfl; conv => whnf)
  refine cmpI (fun h1 => ?_) (fun h1 => ?_) <;> conv => whnf
  · rw [if_pos h1] at he; exact ⟨.inr ⟨_, rfl, he⟩, rfl⟩
  rw [if_neg h1] at he
  have h := Rdy.of (s := s) hp hw (by omega)
  (refine Spec.of_pure (n := 5) (stepsR p s c h) rfl ?_; rintro _ rfl; conv => whnf)
  exact ⟨.inl he.symm, rfl⟩
theorem sameStepsR (l : List Stp) (hl : l.length ≤ 1000000) : PSpec Tryz.prog 28 [.sl stp0 encX l, .sl stp0 encX l] (fun u => u = .bool true) := by
  refine PSpec.intro tt_ok mx_ok Tryz.func28 rfl (by decide) ?_; (conv => whnf)
  refine cmpF (by omega) ?_
  conv => whnf
  refine WPc.loopF tt_ok mx_ok (fun k : Nat => k ≤ l.length) (fun k => [(5, .int .i64 (k : Int))]) (fun _ => []) (fun k => l.length - k) 0 (Nat.zero_le _) ?_; conv => whnf
  refine ⟨(Sub.id_ 400 rfl auto_ auto_), ?_⟩
  rintro k hk
  conv => whnf
  refine cmpI (fun g1 => ?_) (fun g1 => ?_) <;> conv => whnf
  · refine drawI (by decide +kernel) ?_
    conv => whnf
    refine needI (by omega) ?_
    conv => whnf
    refine needI (by omega) ?_
    conv => whnf
    refine cmpF (fun hh => hh rfl) ?_
    conv => whnf
    repeat' (first
        | (refine needI (by first | omega | (dsimp only; omega)) ?_; conv => whnf)
        | (refine arI trivial (by omega) ?_; conv => whnf)
        | (refine cmpT (by omega) ?_; conv => whnf)
        | (refine cmpF (by omega) ?_; conv => whnf)
        | fail)
    exact ⟨k + 1, (Sub.id_ 400 rfl auto_ auto_), by omega, by dsimp only; omega⟩
  · exact ⟨rfl, rfl⟩
theorem lawSteps (p : Pro) (s : Siz) (c : Cfg) : PSpec Tryz.prog 7 [.agg (encAt p s c)] (fun u => u = .bool true) := by
  refine PSpec.intro tt_ok mx_ok Tryz.func7 rfl (by decide) ?_; (conv => whnf)
  refine boxP rfl ?_
  conv => whnf
  refine Spec.dcall (n := 5) (bigF p) rfl (fun _ => ?_) (fun _ => ?_) <;> (conv => whnf)
  · (refine Spec.of_pure (n := 5) (knownF) rfl ?_; rintro _ rfl; conv => whnf)
    exact ⟨rfl, rfl⟩
  rename_i hp
  have hW := wideF c
  cases hw : wideB c with
  | true =>
    rw [hw] at hW
    (refine Spec.of_pure (n := 5) (hW) rfl ?_; rintro _ rfl; conv => whnf)
    (refine Spec.of_pure (n := 5) (knownF) rfl ?_; rintro _ rfl; conv => whnf)
    exact ⟨rfl, rfl⟩
  | false =>
    rw [hw] at hW
    (refine Spec.of_pure (n := 5) (hW) rfl ?_; rintro _ rfl; conv => whnf)
    have b1 := StepsF p s c hp hw
    have b2 := StepsR p s c hp hw
    have hf : ∃ l e, stE p s c = sxA l e ∧ l.length ≤ 1000000 := by
      unfold stE
      split
      · exact ⟨[], _, rfl, by simp⟩
      · have := stA_le (s := s) hp hw
        exact ⟨_, _, rfl, by omega⟩
    obtain ⟨l, e, h1, h2⟩ := hf
    rw [h1] at b1 b2
    (refine Spec.of_pure (n := 5) (b1) rfl ?_; rintro _ rfl; conv => whnf)
    (refine Spec.of_pure (n := 5) (b2) rfl ?_; rintro _ rfl; conv => whnf)
    refine cmpT rfl ?_
    conv => whnf
    (refine Spec.of_pure (n := 5) (sameStepsR l h2) rfl ?_; rintro _ rfl; conv => whnf)
    (refine Spec.of_pure (n := 5) (knownF) rfl ?_; rintro _ rfl; conv => whnf)
    exact ⟨rfl, rfl⟩
end Go.Proofs.YtgbicnldbhfhiaaGreatDoor
