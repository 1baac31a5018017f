import Derived.Test.YtjnjieabdjpfnabDoorMA
import Derived.Test.YtjnjieabdjpfnabDoorM9
set_option linter.unusedVariables false
set_option linter.unusedSimpArgs false
namespace Go.Proofs.YtjnjieabdjpfnabDoor
set_option maxRecDepth 100000
set_option maxHeartbeats 16000000
theorem stp_eq {x y : Stp} (h : [x.rule, x.process, x.partner] = [y.rule, y.process, y.partner]) : x = y := by
 obtain ⟨a, b, c⟩ := x
 obtain ⟨d, e, f⟩ := y
 simp only [List.cons.injEq, and_true] at h
 rw [h.1, h.2.1, h.2.2]
theorem lawStays (p : Pro) (s : Siz) (c : Cfg) (x : Stp) : PSpec Tryd.prog 6 [.agg (encAt p s c), .agg (encX x)] (fun u => u = .bool true) := by
 refine PSpec.intro tt_ok mx_ok Tryd.func6 rfl (by decide) ?_; (conv => whnf)
 refine boxP rfl ?_
 conv => whnf
 refine boxP rfl ?_
 conv => whnf
 refine dC (bigF p) (fun _ => ?_) (fun _ => ?_) <;> (conv => whnf)
 ·(refine oP (knownF) ?_; conv => whnf)
  exact ⟨rfl, rfl⟩
 rename_i hp
 have hW := wideF c
 cases hw : wideB c with
 |true =>
  rw [hw] at hW
  (refine oP (hW) ?_; conv => whnf)
  (refine oP (knownF) ?_; conv => whnf)
  exact ⟨rfl, rfl⟩
 |false =>
  rw [hw] at hW
  (refine oP (hW) ?_; conv => whnf)
  have b1 := StepsF p s c hp hw
  have b2 := EnabledF p s c x hp hw
  unfold stE at b1
  unfold ansE at b2
  by_cases h1 : vconE p s c ≠ 0
  ·rw [if_pos h1] at b1 b2
   (refine oP (b1) ?_; conv => whnf)
   refine WPc.loopF tt_ok mx_ok (fun _ : Unit => True) (fun _ => [(8, .int .i64 0), (7, .bool false)]) (fun _ => []) (fun _ => 0) () trivial ?_; conv => whnf
   refine ⟨sI, ?_⟩
   rintro _ _
   conv => whnf
   refine cmpF (by decide) ?_
   conv => whnf
   (refine oP (b2) ?_; conv => whnf)
   (refine oP (ApplyF_e p s c x hp hw h1) ?_; conv => whnf)
   refine cmpT h1 ?_
   conv => whnf
   refine cmpT rfl ?_
   conv => whnf
   refine cmpT rfl ?_
   conv => whnf
   (refine oP (knownF) ?_; conv => whnf)
   exact ⟨rfl, rfl⟩
  rw [if_neg h1] at b1 b2
  have h := Rdy.of (s := s) hp hw (by omega)
  have hlen := stA_le (s := s) hp hw
  have hmem := fun y => stA_mem (p := p) (s := s) (c := c) (x := y)
  generalize stA p s c p.rules.length = l at b1 hlen hmem
  (refine oP (b1) ?_; conv => whnf)
  refine WPc.loopF tt_ok mx_ok (fun z : Nat × Bool => z.1 ≤ l.length ∧ (z.2 = true ↔ ∃ i, i < z.1 ∧ l.getD i stp0 = x)) (fun z => [(8, .int .i64 (z.1 : Int)), (7, .bool z.2)]) (fun _ => []) (fun z => l.length - z.1) (0, false) ⟨Nat.zero_le _, by simp⟩ ?_; conv => whnf
  refine ⟨sI, ?_⟩
  rintro ⟨k, is⟩ ⟨hk, his⟩
  dsimp only at hk his ⊢
  conv => whnf
  refine cmpI ?_ ?_ <;> (intro g1; conv => whnf)
  ·have hlt : k < l.length := by omega
   have hen : enB p s c (l.getD k stp0) false := (hmem _).1 (memX_getD.2 ⟨k, hlt, rfl⟩)
   have next : ∀ b : Bool, (b = true ↔ is = true ∨ l.getD k stp0 = x) → (b = true ↔ ∃ i, i < k + 1 ∧ l.getD i stp0 = x) := fun b hb => by
    rw [hb, his]
    constructor
    ·rintro (⟨i, h1, h2⟩ | h)
     ·exact ⟨i, by omega, h2⟩
     ·exact ⟨k, by omega, h⟩
    ·rintro ⟨i, h1, h2⟩
     by_cases e : i = k
     ·subst e; exact .inr h2
     ·exact .inl ⟨i, by omega, h2⟩
   refine dI ?_
   conv => whnf
   cases is with
   |true =>
    conv => whnf
    have hnb : (true = true ↔ ∃ i, i < k + 1 ∧ l.getD i stp0 = x) := next true (by simp)
    refine dI ?_
    conv => whnf
    refine nI ?_
    conv => whnf
    by_cases hap : apB c (rulX p (l.getD k stp0)) (l.getD k stp0)
    ·have hA := ApplyFP p s c (l.getD k stp0) h hen hap
     have hV := (h.next hen hap).vcon
     have hwn : wideB (apC c (rulX p (l.getD k stp0)) (l.getD k stp0)) = false := apC_wide hw
     (refine oC (hA) ?_; conv => whnf)
     refine tI ?_
     conv => whnf
     refine fI ?_
     conv => whnf
     (refine oP (ValidConfigF p s (apC c (rulX p (l.getD k stp0)) (l.getD k stp0)) hp hwn) ?_; conv => whnf)
     refine cmpF (fun hh => hh hV) ?_
     conv => whnf
     repeat' ((first|refine nI ?_|refine aI ?_|refine tI ?_|refine fI ?_|fail);conv => whnf)
     exact ⟨(k + 1, true), sI, ⟨by dsimp only; omega, hnb⟩, by dsimp only; omega⟩
    ·(refine oC (ApplyF_l p s c (l.getD k stp0) hp hw (by omega) hen hap) ?_; conv => whnf)
     refine fI ?_
     conv => whnf
     repeat' ((first|refine nI ?_|refine aI ?_|refine tI ?_|refine fI ?_|fail);conv => whnf)
     exact ⟨(k + 1, true), sI, ⟨by dsimp only; omega, hnb⟩, by dsimp only; omega⟩
   |false =>
    conv => whnf
    refine nI ?_
    conv => whnf
    refine cmpI ?_ ?_ <;> (intro g2; conv => whnf)
    ·have g3 : l.getD k stp0 = x := stp_eq g2
     have hnb : (true = true ↔ ∃ i, i < k + 1 ∧ l.getD i stp0 = x) := next true (⟨fun _ => .inr g3, fun _ => rfl⟩)
     refine dI ?_
     conv => whnf
     refine nI ?_
     conv => whnf
     by_cases hap : apB c (rulX p (l.getD k stp0)) (l.getD k stp0)
     ·have hA := ApplyFP p s c (l.getD k stp0) h hen hap
      have hV := (h.next hen hap).vcon
      have hwn : wideB (apC c (rulX p (l.getD k stp0)) (l.getD k stp0)) = false := apC_wide hw
      (refine oC (hA) ?_; conv => whnf)
      refine tI ?_
      conv => whnf
      refine fI ?_
      conv => whnf
      (refine oP (ValidConfigF p s (apC c (rulX p (l.getD k stp0)) (l.getD k stp0)) hp hwn) ?_; conv => whnf)
      refine cmpF (fun hh => hh hV) ?_
      conv => whnf
      repeat' ((first|refine nI ?_|refine aI ?_|refine tI ?_|refine fI ?_|fail);conv => whnf)
      exact ⟨(k + 1, true), sI, ⟨by dsimp only; omega, hnb⟩, by dsimp only; omega⟩
     ·(refine oC (ApplyF_l p s c (l.getD k stp0) hp hw (by omega) hen hap) ?_; conv => whnf)
      refine fI ?_
      conv => whnf
      repeat' ((first|refine nI ?_|refine aI ?_|refine tI ?_|refine fI ?_|fail);conv => whnf)
      exact ⟨(k + 1, true), sI, ⟨by dsimp only; omega, hnb⟩, by dsimp only; omega⟩
    ·have g3 : l.getD k stp0 ≠ x := fun e => g2 (by rw [← e]; rfl)
     have hnb : (false = true ↔ ∃ i, i < k + 1 ∧ l.getD i stp0 = x) := next false (⟨fun h => (by cases h), fun h => h.elim (fun e => (by cases e)) (fun e => absurd e g3)⟩)
     refine dI ?_
     conv => whnf
     refine nI ?_
     conv => whnf
     by_cases hap : apB c (rulX p (l.getD k stp0)) (l.getD k stp0)
     ·have hA := ApplyFP p s c (l.getD k stp0) h hen hap
      have hV := (h.next hen hap).vcon
      have hwn : wideB (apC c (rulX p (l.getD k stp0)) (l.getD k stp0)) = false := apC_wide hw
      (refine oC (hA) ?_; conv => whnf)
      refine tI ?_
      conv => whnf
      refine fI ?_
      conv => whnf
      (refine oP (ValidConfigF p s (apC c (rulX p (l.getD k stp0)) (l.getD k stp0)) hp hwn) ?_; conv => whnf)
      refine cmpF (fun hh => hh hV) ?_
      conv => whnf
      repeat' ((first|refine nI ?_|refine aI ?_|refine tI ?_|refine fI ?_|fail);conv => whnf)
      exact ⟨(k + 1, false), sI, ⟨by dsimp only; omega, hnb⟩, by dsimp only; omega⟩
     ·(refine oC (ApplyF_l p s c (l.getD k stp0) hp hw (by omega) hen hap) ?_; conv => whnf)
      refine fI ?_
      conv => whnf
      repeat' ((first|refine nI ?_|refine aI ?_|refine tI ?_|refine fI ?_|fail);conv => whnf)
      exact ⟨(k + 1, false), sI, ⟨by dsimp only; omega, hnb⟩, by dsimp only; omega⟩
  ·have hfin : (is = true ↔ enB p s c x false) := by
    rw [his, ← hmem, memX_getD]
    constructor
    ·rintro ⟨i, h1, h2⟩; exact ⟨i, by omega, h2⟩
    ·rintro ⟨i, h1, h2⟩; exact ⟨i, by omega, h2⟩
   by_cases he : enB p s c x false
   ·obtain rfl : is = true := hfin.2 he
    rw [decide_eq_true he] at b2
    (refine oP (b2) ?_; conv => whnf)
    by_cases hap : apB c (rulX p x) x
    ·(refine oP (ApplyFP p s c x h he hap) ?_; conv => whnf)
     repeat' ((first|refine nI ?_|refine aI ?_|refine tI ?_|refine fI ?_|fail);conv => whnf)
     (refine oP (knownF) ?_; conv => whnf)
     exact ⟨rfl, rfl⟩
    ·(refine oP (ApplyF_l p s c x hp hw (by omega) he hap) ?_; conv => whnf)
     repeat' ((first|refine nI ?_|refine aI ?_|refine tI ?_|refine fI ?_|fail);conv => whnf)
     (refine oP (knownF) ?_; conv => whnf)
     exact ⟨rfl, rfl⟩
   ·obtain rfl : is = false := by
     cases is with
     |true => exact absurd (hfin.1 rfl) he
     |false => rfl
    rw [decide_eq_false he] at b2
    (refine oP (b2) ?_; conv => whnf)
    (refine oP (ApplyF_s p s c x hp hw (by omega) he) ?_; conv => whnf)
    repeat' ((first|refine nI ?_|refine aI ?_|refine tI ?_|refine fI ?_|fail);conv => whnf)
    (refine oP (knownF) ?_; conv => whnf)
    exact ⟨rfl, rfl⟩
end Go.Proofs.YtjnjieabdjpfnabDoor
