
/-
  Guards, demands on other processes and on neighbors.
-/
import Derived.Test.YtcbckmnbdcjeeaaGreatDoorFoG
set_option linter.unusedVariables false
set_option linter.unusedSimpArgs false
namespace Go.Proofs.YtcbckmnbdcjeeaaGreatDoor
set_option maxRecDepth 100000
set_option maxHeartbeats 8000000

/-- a valid configuration of a valid family -/
structure Rdy (p : Pro) (s : Siz) (c : Cfg) : Prop where
  big : ¬ bigP p
  wide : wideB c = false
  val : validE p = 0
  siz : inZ s
  sz : (1 ≤ s.n ∧ s.n ≤ 8) ∧ (0 ≤ s.f ∧ s.f ≤ s.n)
  adm : admB p s
  vc : VC p s c
theorem Rdy.of {p : Pro} {s : Siz} {c : Cfg} (hp : ¬ bigP p) (hw : wideB c = false) (h : vconE p s c = 0) : Rdy p s c := by
  unfold vconE at h
  by_cases h1 : sizeE p s ≠ 0
  · rw [if_pos h1] at h; omega
  rw [if_neg h1] at h
  have h2 := sizeE_ok (p := p) (s := s) (by omega)
  refine ⟨hp, hw, h2.1, by unfold inZ; omega, by omega, h2.2.1, ?_⟩
  unfold vcE at h
  by_cases h3 : VC p s c
  · exact h3
  · rw [if_neg h3] at h; omega
theorem Rdy.sent {p : Pro} {s : Siz} {c : Cfg} (h : Rdy p s c) : inR c.sent 1048577 ∧ inR c.faulty 1048577 := by
  refine ⟨h.vc.sen, fun j hj => ?_⟩
  have := h.vc.fau j hj
  have e : whL p ≤ 1048576 := by unfold whL; split <;> omega
  omega
theorem evaluateR (l : Lin) (s : Siz) (hl : bndB l) (hs : inZ s) : PSpec Tryz.prog 164 [.agg (encLin l), .agg (encZ s)] (fun u => u = .tup [.int .i64 (evalL l s), .int .i64 0]) := by
  have hs' := hs
  unfold inZ at hs'
  refine PSpec.intro tt_ok mx_ok Tryz.func164 rfl (by decide) ?_; (conv => whnf)
  refine boxP rfl ?_
  conv => whnf
  refine boxP rfl ?_
  conv => whnf
  refine Spec.dcall (n := 5) (fewR l) rfl (fun _ => ?_) (fun _ => ?_) <;> (conv => whnf)
  case refine_2 => rename_i h; exact absurd hl h
  refine Spec.dcall (n := 5) (withinR _ _ _) rfl (fun _ => ?_) (fun _ => ?_) <;> (conv => whnf)
  case refine_2 => rename_i h; omega
  refine Spec.dcall (n := 5) (withinR _ _ _) rfl (fun _ => ?_) (fun _ => ?_) <;> (conv => whnf)
  case refine_2 => rename_i h; omega
  refine Spec.dcall (n := 5) (withinR _ _ _) rfl (fun _ => ?_) (fun _ => ?_) <;> (conv => whnf)
  case refine_2 => rename_i h; omega
  (refine Spec.of_pure (n := 5) (valueR l s hl hs) rfl ?_; rintro _ rfl; conv => whnf)
  exact ⟨rfl, rfl⟩
def grdA (p : Pro) (s : Siz) (c : Cfg) (f : Bool) (g : Thr) : Prop := evalL g.bound s ≤ g.coef * cntM p s c g.message f
def grdB (p : Pro) (s : Siz) (c : Cfg) (r : Rul) (f : Bool) : Prop := ∀ j, j < r.guards.length → grdA p s c f (r.guards.getD j thr0)
noncomputable instance decGrd (p : Pro) (s : Siz) (c : Cfg) (r : Rul) (f : Bool) : Decidable (grdB p s c r f) := Classical.propDecidable _
theorem mul_c {a b : Int} (ha : 1 ≤ a ∧ a ≤ 100) (hb : 0 ≤ b ∧ b ≤ 2097152) : 0 ≤ a * b ∧ a * b ≤ 209715200 := by
  have h1 : 0 ≤ a * b := Int.mul_nonneg (by omega) hb.1
  have h2 : a * b ≤ 100 * 2097152 := Int.mul_le_mul (by omega) hb.2 hb.1 (by omega)
  omega
theorem guardsV (p : Pro) (s : Siz) (c : Cfg) (r : Rul) (f : Bool) (h : Rdy p s c) (hr : ¬ bigR r) (hg : guardsE p.messages.length r.guards = 0) : PSpec Tryz.prog 124 [.agg (encV p s c), .agg (encR r), .bool f] (fun u => u = .bool (decide (grdB p s c r f))) := by
  have hle := bigP_le h.big
  have hbr := bigR_le hr
  have hgs := guardsE_ok hg
  have hsn := h.vc.snl
  have hfa := h.vc.fal
  have hz := h.siz
  unfold inZ at hz
  refine PSpec.intro tt_ok mx_ok Tryz.func124 rfl (by decide) ?_; (conv => whnf)
  refine boxP rfl ?_
  conv => whnf
  refine boxP rfl ?_
  conv => whnf
  refine WPc.loopF tt_ok mx_ok (fun k : Nat => k ≤ r.guards.length ∧ ∀ j, j < k → grdA p s c f (r.guards.getD j thr0)) (fun k => [(14, .int .i64 (k : Int))]) (fun _ => []) (fun k => r.guards.length - k) 0 ⟨by omega, fun j hj => by omega⟩ ?_; conv => whnf
  refine ⟨(Sub.id_ 400 rfl auto_ auto_), ?_⟩
  rintro k ⟨hk, ha⟩
  conv => whnf
  refine cmpI (fun h1 => ?_) (fun h1 => ?_) <;> conv => whnf
  · obtain ⟨g1, g2, g3⟩ := hgs k (by omega)
    have nok : ¬ grdA p s c f (r.guards.getD k thr0) → ¬ grdB p s c r f := fun hn hb => hn (hb k (by omega))
    have next : grdA p s c f (r.guards.getD k thr0) → ∀ j, j < k + 1 → grdA p s c f (r.guards.getD j thr0) := fun hn j hj => by
      by_cases e : j = k
      · subst e; exact hn
      · exact ha j (by omega)
    refine needI (by omega) ?_
    rw [Int.toNat_natCast]
    generalize r.guards.getD k thr0 = g at g1 g2 g3 nok next
    have hb := cntM_b (p := p) (s := s) (c := c) (m := g.message) f h.sent.1 h.sent.2 (by omega) (by omega)
    have hm := mul_c g2 hb
    conv => whnf
    (refine Spec.of_pure (n := 5) (evaluateF g.bound s g3 h.siz) rfl ?_; rintro _ rfl; conv => whnf)
    refine drawI (by decide +kernel) ?_
    conv => whnf
    (refine callPI 5 (countedF p s c g.message f h.sent.1 h.sent.2 (by omega) (by omega)) rfl ⟨_, rfl⟩ ?_; rintro _ rfl; conv => whnf)
    repeat' (first
        | (refine needI (by first | omega | (dsimp only; omega)) ?_; conv => whnf)
        | (refine arI trivial (by omega) ?_; conv => whnf)
        | (refine cmpT (by omega) ?_; conv => whnf)
        | (refine cmpF (by omega) ?_; conv => whnf)
        | fail)
    refine cmpI (fun h2 => ?_) (fun h2 => ?_) <;> conv => whnf
    · exact ⟨dec_f (nok (by unfold grdA; omega)), rfl⟩
    · repeat' (first
          | (refine needI (by first | omega | (dsimp only; omega)) ?_; conv => whnf)
          | (refine arI trivial (by omega) ?_; conv => whnf)
          | (refine cmpT (by omega) ?_; conv => whnf)
          | (refine cmpF (by omega) ?_; conv => whnf)
          | fail)
      exact ⟨k + 1, (Sub.id_ 400 rfl auto_ auto_), ⟨by omega, next (by unfold grdA; omega)⟩, by dsimp only; omega⟩
  · exact ⟨dec_t (fun j hj => ha j (by omega)), rfl⟩
end Go.Proofs.YtcbckmnbdcjeeaaGreatDoor
