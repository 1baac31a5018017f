
/-
  Which steps are listed; a forced pair has an enabled step: the law UnfoldForcedSteps.
-/
import Derived.Test.YtgbicnldbhfhiaaDoorFpH
set_option linter.unusedVariables false
set_option linter.unusedSimpArgs false
namespace Go.Proofs.YtgbicnldbhfhiaaDoor
set_option maxRecDepth 100000
set_option maxHeartbeats 16000000

theorem enB_part {p : Pro} {s : Siz} {c : Cfg} {x : Stp} {f : Bool} (h : enB p s c x f) : -1 ≤ x.partner ∧ x.partner < c.states.length := by
  have h3 := h.2.2.2
  unfold kinB at h3
  split at h3
  · have h4 := h3.1
    unfold prtB at h4
    omega
  · have h4 := h3.1
    omega
theorem stA_mem {p : Pro} {s : Siz} {c : Cfg} {x : Stp} : x ∈ stA p s c p.rules.length ↔ enB p s c x false := by
  unfold stA stI stP
  simp only [List.mem_flatMap, List.mem_range, List.mem_filter, List.mem_map, decide_eq_true_eq]
  constructor
  · rintro ⟨r, hr, i, hi, ⟨k, hk, rfl⟩, h⟩; exact h
  · intro h
    have hin := h.1
    have hpt := enB_part h
    refine ⟨x.rule.toNat, by omega, x.process.toNat, by omega, ⟨(x.partner + 1).toNat, by omega, ?_⟩, h⟩
    obtain ⟨a, b, d⟩ := x
    simp only at hin hpt ⊢
    rw [Stp.mk.injEq]
    omega
theorem enB_forced {p : Pro} {s : Siz} {c : Cfg} {x : Stp} (h : Rdy p s c) (he : enB p s c x true) : enB p s c x false := by
  obtain ⟨hin, h1, h2, h3⟩ := he
  refine ⟨hin, h1, h2, ?_⟩
  have hR := valid_rule h.val (i := x.rule.toNat) (by omega)
  generalize p.rules.getD x.rule.toNat rul0 = r at h3 hR ⊢
  unfold kinB at h3 ⊢
  by_cases k2 : r.kind = 2 ∨ r.kind = 5
  · rw [if_pos k2] at h3 ⊢; exact h3
  rw [if_neg k2] at h3 ⊢
  refine ⟨h3.1, ?_⟩
  have h4 := h3.2
  by_cases k1 : r.kind = 1
  · rw [if_pos k1] at h4 ⊢
    refine ⟨fun j hj => ?_, h4.2⟩
    have hk := hR.kin
    unfold kindE at hk
    rw [if_pos k1] at hk
    have hg := guardsE_ok (orL_zero hk (guardsE p.messages.length r.guards) (by simp)) j hj
    have ha := h4.1 j hj
    unfold grdA at ha ⊢
    generalize r.guards.getD j thr0 = g at hg ha ⊢
    have hf : 0 ≤ c.faulty.getD g.message.toNat 0 := by
      by_cases hlt : g.message.toNat < c.faulty.length
      · exact (h.vc.fau _ hlt).1
      · rw [List.getD_eq_getElem?_getD, List.getElem?_eq_none (by omega)]; exact Int.le_refl _
    have hs := h.sz
    have hle : cntM p s c g.message true ≤ cntM p s c g.message false := by
      simp only [cntM]
      (repeat' split) <;> omega
    have := Int.mul_le_mul_of_nonneg_left hle (show 0 ≤ g.coef by omega)
    omega
  · rw [if_neg k1] at h4 ⊢; exact h4
theorem memX_getD {l : List Stp} {x : Stp} : x ∈ l ↔ ∃ i, i < l.length ∧ l.getD i stp0 = x := by
  constructor
  · intro h
    obtain ⟨i, hi, rfl⟩ := List.mem_iff_getElem.1 h
    exact ⟨i, hi, by rw [List.getD_eq_getElem?_getD, List.getElem?_eq_getElem hi]; rfl⟩
  · rintro ⟨i, hi, rfl⟩
    rw [List.getD_eq_getElem?_getD, List.getElem?_eq_getElem hi]
    exact List.getElem_mem _
theorem stA_le {p : Pro} {s : Siz} {c : Cfg} (hp : ¬ bigP p) (hw : wideB c = false) : (stA p s c p.rules.length).length ≤ 303000 := by
  have hc := wide_le hw
  have hle := bigP_le hp
  have h1 := stA_len p s c p.rules.length
  have h2 : c.states.length * (c.states.length + 1) ≤ 100 * 101 := Nat.mul_le_mul (by omega) (by omega)
  have h3 : p.rules.length * (c.states.length * (c.states.length + 1)) ≤ 30 * 10100 := Nat.mul_le_mul (by omega) h2
  omega
theorem lawForcedSteps (p : Pro) (s : Siz) (c : Cfg) (r i : Int) : PSpec Tryd.prog 3 [.agg (encAt p s c), .int .i64 r, .int .i64 i] (fun u => u = .bool true) := by
  refine PSpec.intro tt_ok mx_ok Tryd.func3 rfl (by decide) ?_; (conv => whnf)
  refine boxP rfl ?_
  conv => whnf
  refine Spec.dcall (n := 5) (bigF p) rfl (fun _ => ?_) (fun _ => ?_) <;> (conv => whnf)
  · (refine Spec.of_pure (n := 5) (knownF) rfl ?_; rintro _ rfl; conv => whnf)
    exact ⟨rfl, rfl⟩
  rename_i hp
  have hW := wideF c
  cases hw : wideB c with
  | true =>
    rw [hw] at hW
    (refine Spec.of_pure (n := 5) (hW) rfl ?_; rintro _ rfl; conv => whnf)
    (refine Spec.of_pure (n := 5) (knownF) rfl ?_; rintro _ rfl; conv => whnf)
    exact ⟨rfl, rfl⟩
  | false =>
    rw [hw] at hW
    (refine Spec.of_pure (n := 5) (hW) rfl ?_; rintro _ rfl; conv => whnf)
    have b1 := ForcedF p s c r i hp hw
    unfold ansE at b1
    by_cases h1 : vconE p s c ≠ 0
    · rw [if_pos h1] at b1
      (refine Spec.of_pure (n := 5) (b1) rfl ?_; rintro _ rfl; conv => whnf)
      refine cmpT h1 ?_
      conv => whnf
      (refine Spec.of_pure (n := 5) (knownF) rfl ?_; rintro _ rfl; conv => whnf)
      exact ⟨rfl, rfl⟩
    rw [if_neg h1] at b1
    have h := Rdy.of (s := s) hp hw (by omega)
    by_cases hf : fcB p s c r i
    case neg =>
      rw [decide_eq_false hf] at b1
      (refine Spec.of_pure (n := 5) (b1) rfl ?_; rintro _ rfl; conv => whnf)
      refine cmpF (by omega) ?_
      conv => whnf
      (refine Spec.of_pure (n := 5) (knownF) rfl ?_; rintro _ rfl; conv => whnf)
      exact ⟨rfl, rfl⟩
    rw [decide_eq_true hf] at b1
    have b2 := StepsF p s c hp hw
    unfold stE at b2
    rw [if_neg h1] at b2
    have hex : ∃ j, j < (stA p s c p.rules.length).length ∧ ((stA p s c p.rules.length).getD j stp0).rule = r ∧ ((stA p s c p.rules.length).getD j stp0).process = i := by
      obtain ⟨_, k, hk, he⟩ := hf
      obtain ⟨j, hj, e⟩ := memX_getD.1 (stA_mem.2 (enB_forced h he))
      exact ⟨j, hj, by rw [e], by rw [e]⟩
    have hlen := stA_le (s := s) hp hw
    generalize stA p s c p.rules.length = l at b2 hex hlen
    (refine Spec.of_pure (n := 5) (b1) rfl ?_; rintro _ rfl; conv => whnf)
    refine cmpF (by omega) ?_
    conv => whnf
    (refine Spec.of_pure (n := 5) (b2) rfl ?_; rintro _ rfl; conv => whnf)
    refine WPc.loopF tt_ok mx_ok (fun k : Nat => k ≤ l.length ∧ ∀ j, j < k → ¬ ((l.getD j stp0).rule = r ∧ (l.getD j stp0).process = i)) (fun k => [(11, .int .i64 (k : Int))]) (fun _ => []) (fun k => l.length - k) 0 ⟨by omega, fun j hj => by omega⟩ ?_; conv => whnf
    refine ⟨(Sub.id_ 400 rfl auto_ auto_), ?_⟩
    rintro k ⟨hk, ha⟩
    conv => whnf
    refine cmpI (fun g1 => ?_) (fun g1 => ?_) <;> conv => whnf
    · refine needI (by omega) ?_
      conv => whnf
      have next : ¬ ((l.getD k stp0).rule = r ∧ (l.getD k stp0).process = i) → ∀ j, j < k + 1 → ¬ ((l.getD j stp0).rule = r ∧ (l.getD j stp0).process = i) := fun h j hj => by
        by_cases e : j = k
        · subst e; exact h
        · exact ha j (by omega)
      rw [Int.toNat_natCast]
      refine cmpI (fun g2 => ?_) (fun g2 => ?_) <;> conv => whnf
      · refine needI (by omega) ?_
        conv => whnf
        rw [Int.toNat_natCast]
        refine cmpI (fun g3 => ?_) (fun g3 => ?_) <;> conv => whnf
        · refine cmpT rfl ?_
          conv => whnf
          (refine Spec.of_pure (n := 5) (knownF) rfl ?_; rintro _ rfl; conv => whnf)
          exact ⟨rfl, rfl⟩
        · repeat' (first
              | (refine needI (by first | omega | (dsimp only; omega)) ?_; conv => whnf)
              | (refine arI trivial (by omega) ?_; conv => whnf)
              | (refine cmpT (by omega) ?_; conv => whnf)
              | (refine cmpF (by omega) ?_; conv => whnf)
              | fail)
          exact ⟨k + 1, (Sub.id_ 400 rfl auto_ auto_), ⟨by omega, next (fun hh => g3 hh.2)⟩, by dsimp only; omega⟩
      · repeat' (first
            | (refine needI (by first | omega | (dsimp only; omega)) ?_; conv => whnf)
            | (refine arI trivial (by omega) ?_; conv => whnf)
            | (refine cmpT (by omega) ?_; conv => whnf)
            | (refine cmpF (by omega) ?_; conv => whnf)
            | fail)
        exact ⟨k + 1, (Sub.id_ 400 rfl auto_ auto_), ⟨by omega, next (fun hh => g2 hh.1)⟩, by dsimp only; omega⟩
    · obtain ⟨j, hj, e⟩ := hex
      exact absurd e (ha j (by omega))
end Go.Proofs.YtgbicnldbhfhiaaDoor
