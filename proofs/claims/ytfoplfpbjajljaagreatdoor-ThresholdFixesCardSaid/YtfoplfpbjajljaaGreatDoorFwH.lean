import Derived.Test.YtfoplfpbjajljaaGreatDoorFwG
set_option linter.unusedVariables false
set_option linter.unusedSimpArgs false
namespace Go.Proofs.YtfoplfpbjajljaaGreatDoor
set_option maxRecDepth 100000
set_option maxHeartbeats 16000000
theorem choiceR (p : Pro) (q : Prp) (hv : validE p = 0) (number : Nat) (hn : number ≤ 1000000) : PSpec Tryz.prog 43 [.agg (encP p), .agg (encQ q), .int .i64 (number : Int)] (fun u => u = if q.kind = 1 then .nilsl else .sl 0 encI (chL p number)) := by
 have hl := (vld_of hv).len
 refine PSpec.intro tt_ok mx_ok Tryz.func43 rfl (by decide) ?_; (conv => whnf)
 refine boxP rfl ?_
 conv => whnf
 refine boxP rfl ?_
 conv => whnf
 refine cmpI ?_ ?_ <;> (intro hk; conv => whnf)
 ·exact ⟨by rw [if_pos hk]; rfl, rfl⟩
 rw [if_neg hk]
 refine mkI 0 encI 0 rfl (by dsimp only; omega) ?_
 rw [tN]
 conv => whnf
 refine aI ?_
 conv => whnf
 have hch : ∀ m, chN p.rules number m ≤ number := by
  intro m
  induction m with
  |zero => exact Nat.le_refl _
  |succ m ih => rw [chN]; exact Nat.le_trans (Nat.div_le_self _ _) ih
 refine WPc.loopF tt_ok mx_ok (fun m : Nat => m ≤ p.rules.length) (fun m => [(8, .int .i64 ((p.rules.length : Int) - 1 - (m : Int))), (2, .int .i64 (chN p.rules number m : Int))]) (fun m => [(16, rowN (chO p number m))]) (fun m => p.rules.length - m) 0 (Nat.zero_le _) ?_; conv => whnf
 refine ⟨by rw [chO_zero]; exact sI, ?_⟩
 rintro m hm
 conv => whnf
 refine cmpI ?_ ?_ <;> (intro h1; conv => whnf)
 ·have hlt : m < p.rules.length := by omega
  have ei : ((p.rules.length : Int) - 1 - (m : Int)).toNat = p.rules.length - 1 - m := by omega
  refine nI ?_
  rw [ei]
  conv => whnf
  have hg := guards_2' hv (p.rules.length - 1 - m) (by omega)
  have hc := hch m
  have hup := chO_up p (number := number) hlt
  have ed : chD p.rules number (p.rules.length - 1 - m) = chN p.rules number m % (1 + (p.rules.getD (p.rules.length - 1 - m) rul0).guards.length) := by unfold chD; rw [show p.rules.length - 1 - (p.rules.length - 1 - m) = m by omega]
  have eq : chN p.rules number (m + 1) = chN p.rules number m / (1 + (p.rules.getD (p.rules.length - 1 - m) rul0).guards.length) := rfl
  have hlen := chO_len p (number := number) (m := m) (by omega)
  generalize (p.rules.getD (p.rules.length - 1 - m) rul0).guards.length = g at hg ed eq
  have e1g : (1 + (g : Int)) = ((1 + g : Nat) : Int) := by push_cast; rfl
  have et : ((chN p.rules number m : Nat) : Int).tdiv (1 + (g : Int)) = ((chN p.rules number (m + 1) : Nat) : Int) := by rw [e1g, eq, Int.ofNat_tdiv]
  have er : ((chN p.rules number m : Nat) : Int).tmod (1 + (g : Int)) = ((chD p.rules number (p.rules.length - 1 - m) : Nat) : Int) := by rw [e1g, ed, Int.ofNat_tmod]
  have hc1 := hch (m + 1)
  repeat' ((first|refine nI ?_|refine aI ?_|refine tI ?_|refine fI ?_|fail);conv => whnf)
  rw [er, ei]
  refine rowSetI ((chD p.rules number (p.rules.length - 1 - m) : Nat) : Int) rfl ?_
  conv => whnf
  repeat' ((first|refine nI ?_|refine aI ?_|refine tI ?_|refine fI ?_|fail);conv => whnf)
  rw [et]
  refine arI (by omega) (by omega) ?_
  conv => whnf
  repeat' ((first|refine nI ?_|refine aI ?_|refine tI ?_|refine fI ?_|fail);conv => whnf)
  refine ⟨m + 1, ?_, by omega, by dsimp only; omega⟩
  dsimp only
  rw [← hup]
  exact sI
 ·obtain rfl : m = p.rules.length := by omega
  rw [chO_all]
  exact ⟨rfl, rfl⟩
theorem allowedTR (p : Pro) (hp : okP p) (hv : validE p = 0) (sch : List Int) (hs : schB (thrL p.rules).length sch) (j : Nat) (x : Rul) (hx : x.guards.length ≤ 2) (hj : j ≤ sch.length) : PSpec Tryz.prog 69 [.agg (encP p), .sl 0 encI sch, .int .i64 (j : Int), .agg (encR x)] (fun u => u = .bool (decide (allB (thrL p.rules) sch j x))) := by
 have hT := (vld_of hv).thr
 have hsl := sch_len hs
 refine PSpec.intro tt_ok mx_ok Tryz.func69 rfl (by decide) ?_; (conv => whnf)
 refine boxP rfl ?_
 conv => whnf
 refine boxP rfl ?_
 conv => whnf
 (refine oP (thresholdsT_R p hp hv) ?_; conv => whnf)
 refine WPc.loopF tt_ok mx_ok (fun k : Nat => k ≤ x.guards.length ∧ ∀ i, i < k → ∃ m, m < j ∧ (thrL p.rules).getD (sch.getD m 0).toNat thr0 = x.guards.getD i thr0) (fun k => [(11, .int .i64 (k : Int))]) (fun _ => []) (fun k => x.guards.length - k) 0 ⟨by omega, fun i hi => by omega⟩ ?_; conv => whnf
 refine ⟨sI, ?_⟩
 rintro k ⟨hk, ha⟩
 conv => whnf
 refine cmpI ?_ ?_ <;> (intro h1; conv => whnf)
 ·have hlt : k < x.guards.length := by omega
  refine WPc.loopF tt_ok mx_ok (fun y : Nat × Bool => y.1 ≤ j ∧ (y.2 = true ↔ ∃ m, m < y.1 ∧ (thrL p.rules).getD (sch.getD m 0).toNat thr0 = x.guards.getD k thr0)) (fun y => [(13, .int .i64 (y.1 : Int)), (12, .bool y.2)]) (fun _ => []) (fun y => j - y.1) (0, false) ⟨Nat.zero_le _, fun e => (by cases e), fun ⟨m, h, _⟩ => (by omega)⟩ ?_; conv => whnf
  refine ⟨sI, ?_⟩
  rintro ⟨i, b⟩ ⟨hi, hb⟩
  dsimp only at hi hb ⊢
  conv => whnf
  refine cmpI ?_ ?_ <;> (intro h2; conv => whnf)
  ·have hil : i < j := by omega
   have hsi := (hs i (by omega)).1
   cases b with
   |true =>
    conv => whnf
    refine dI ?_
    conv => whnf
    repeat' ((first|refine nI ?_|refine aI ?_|refine tI ?_|refine fI ?_|fail);conv => whnf)
    refine ⟨(i + 1, true), sI, ⟨by dsimp only; omega, fun _ => ?_, fun _ => rfl⟩, by dsimp only; omega⟩
    obtain ⟨m, h3, h4⟩ := hb.1 rfl
    exact ⟨m, by dsimp only; omega, h4⟩
   |false =>
    have hno : ¬ ∃ m, m < i ∧ (thrL p.rules).getD (sch.getD m 0).toNat thr0 = x.guards.getD k thr0 := fun h => by have := hb.2 h; cases this
    conv => whnf
    refine dI ?_
    conv => whnf
    refine nI ?_
    rw [tN]
    conv => whnf
    refine nI ?_
    conv => whnf
    refine nI ?_
    rw [tN]
    conv => whnf
    refine cmpI ?_ ?_ <;> (intro h3; conv => whnf)
    ·repeat' ((first|refine nI ?_|refine aI ?_|refine tI ?_|refine fI ?_|fail);conv => whnf)
     have h3 : (thrL p.rules).getD (sch.getD i 0).toNat thr0 = x.guards.getD k thr0 := thrN_inj.1 h3
     exact ⟨(i + 1, true), sI, ⟨by dsimp only; omega, fun _ => ⟨i, by dsimp only; omega, h3⟩, fun _ => rfl⟩, by dsimp only; omega⟩
    ·repeat' ((first|refine nI ?_|refine aI ?_|refine tI ?_|refine fI ?_|fail);conv => whnf)
     refine ⟨(i + 1, false), sI, ⟨by dsimp only; omega, fun e => (by cases e), fun ⟨m, h4, h5⟩ => ?_⟩, by dsimp only; omega⟩
     dsimp only at h4
     by_cases e : m = i
     ·subst e; exact absurd (thrN_inj.2 h5) h3
     ·exact absurd ⟨m, by omega, h5⟩ hno
  ·obtain rfl : i = j := by omega
   cases b with
   |true =>
    conv => whnf
    repeat' ((first|refine nI ?_|refine aI ?_|refine tI ?_|refine fI ?_|fail);conv => whnf)
    refine ⟨k + 1, sI, ⟨by omega, fun a hak => ?_⟩, by dsimp only; omega⟩
    by_cases e : a = k
    ·subst e; exact hb.1 rfl
    ·exact ha a (by omega)
   |false =>
    conv => whnf
    refine ⟨dec_f (fun h => ?_), rfl⟩
    have := hb.2 (h _ (mem_getD (l := x.guards) thr0 hlt))
    cases this
 ·refine ⟨dec_t (fun g hg => ?_), rfl⟩
  obtain ⟨i, hi, e⟩ := List.getElem_of_mem hg
  have := ha i (by omega)
  rwa [getD_elem thr0 hi, e] at this
end Go.Proofs.YtfoplfpbjajljaaGreatDoor
