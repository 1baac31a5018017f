import Derived.Test.YtkanoljhphmdcaaGreatDoorFwAa
set_option linter.unusedVariables false
set_option linter.unusedSimpArgs false
namespace Go.Proofs.YtkanoljhphmdcaaGreatDoor
set_option maxRecDepth 100000
set_option maxHeartbeats 16000000
theorem ris_up {p : Pro} {k : Nat} {a : Bool} (h : a = true ↔ ∀ j, j < k → riseB (p.rules.getD j rul0)) (hr : riseB (p.rules.getD k rul0)) : a = true ↔ ∀ j, j < k + 1 → riseB (p.rules.getD j rul0):=by
 rw [h]
 refine ⟨fun c j hj=>?_, fun c j hj=>c j (by omega)⟩
 by_cases e : j = k
 ·subst e; exact hr
 ·exact c j (by omega)
theorem ris_no {p : Pro} {k : Nat} (hr : ¬ riseB (p.rules.getD k rul0)) : (false = true) ↔ ∀ j, j < k + 1 → riseB (p.rules.getD j rul0) :=
 ⟨fun h=>(by cases h), fun c=>absurd (c k (by omega)) hr⟩
theorem classP0 (p : Pro) (hp : okP p) (hv : validE p = 0) (h0 : p.topology = 1 ∧ p.fault = 0 ∧ p.messages.length = 0 ∧ p.resilience.length = 0 ∧ p.values.length = 0 ∧ p.states.length ≤ 4) : PSpec Tryz.prog 45 [.agg (encP p)] (clsT p):=by
 have hle:=okP_le hp
 refine PSpec.intro tt_ok mx_ok Tryz.func45 rfl (by decide) ?_; (conv=>whnf)
 refine boxP rfl ?_
 conv=>whnf
 (refine oP (validateF p hp) ?_; conv=>whnf)
 refine fI ?_
 conv=>whnf
 refine WPc.loopF tt_ok mx_ok (fun z : Nat × Bool × Bool=>z.1 ≤ p.rules.length ∧ (z.2.1 = true ↔ ∀ j, j < z.1 → riseB (p.rules.getD j rul0))) (fun z=>[(5, .bool z.2.1), (6, .bool z.2.2), (20, .int .i64 (z.1 : Int))]) (fun z=>[(2, .box 96 [.bool false, .bool false, .bool false, .bool false, .bool false])]) (fun z=>p.rules.length - z.1) (0, true, false) ⟨Nat.zero_le _, fun _ j hj=>(by have : j < 0:=hj; omega), fun _=>rfl⟩ ?_; conv=>whnf
 refine ⟨sI, ?_⟩
 rintro ⟨k, a, b⟩ ⟨hk, hb⟩
 dsimp only at hk hb ⊢
 conv=>whnf
 refine cmpI ?_ ?_ <;> (intro h1; conv=>whnf)
 ·have hlt : k < p.rules.length:=by omega
  refine nI ?_
  rw [tN]
  have nx:=ris_up hb
  have no:=ris_no (p:=p) (k:=k)
  unfold riseB at nx no
  generalize p.rules.getD k rul0 = r at nx no
  cases a with
  |false =>
   cases b with
   |false =>
    conv=>whnf
    by_cases q1 : r.kind = 1 ∧ r.src < r.dst ∧ r.some_.length = 0 ∧ r.forall_.length = 0
    ·repeat' ((first|refine nI ?_|refine aI ?_|refine tI ?_|refine fI ?_|fail);conv=>whnf)
     exact ⟨(k + 1, false, false), sI, ⟨by dsimp only; omega, nx q1⟩, by dsimp only; omega⟩
    by_cases q2 : r.forall_.length = 0
    ·repeat' ((first|refine nI ?_|refine aI ?_|refine dI ?_|refine boxP rfl ?_|refine tI ?_|refine fI ?_|refine cmpI (fun _=>?_) (fun _=>?_)) <;> conv=>whnf)
     all_goals exact ⟨(k + 1, false, false), sI, ⟨by dsimp only; omega, no q1⟩, by dsimp only; omega⟩
    ·repeat' ((first|refine nI ?_|refine aI ?_|refine dI ?_|refine boxP rfl ?_|refine tI ?_|refine fI ?_|refine cmpI (fun _=>?_) (fun _=>?_)) <;> conv=>whnf)
     all_goals exact ⟨(k + 1, false, true), sI, ⟨by dsimp only; omega, no q1⟩, by dsimp only; omega⟩
   |true =>
    conv=>whnf
    by_cases q1 : r.kind = 1 ∧ r.src < r.dst ∧ r.some_.length = 0 ∧ r.forall_.length = 0
    ·repeat' ((first|refine nI ?_|refine aI ?_|refine tI ?_|refine fI ?_|fail);conv=>whnf)
     exact ⟨(k + 1, false, true), sI, ⟨by dsimp only; omega, nx q1⟩, by dsimp only; omega⟩
    by_cases q2 : r.forall_.length = 0
    ·repeat' ((first|refine nI ?_|refine aI ?_|refine dI ?_|refine boxP rfl ?_|refine tI ?_|refine fI ?_|refine cmpI (fun _=>?_) (fun _=>?_)) <;> conv=>whnf)
     all_goals exact ⟨(k + 1, false, true), sI, ⟨by dsimp only; omega, no q1⟩, by dsimp only; omega⟩
    ·repeat' ((first|refine nI ?_|refine aI ?_|refine dI ?_|refine boxP rfl ?_|refine tI ?_|refine fI ?_|refine cmpI (fun _=>?_) (fun _=>?_)) <;> conv=>whnf)
     all_goals exact ⟨(k + 1, false, true), sI, ⟨by dsimp only; omega, no q1⟩, by dsimp only; omega⟩
  |true =>
   cases b with
   |false =>
    conv=>whnf
    by_cases q1 : r.kind = 1 ∧ r.src < r.dst ∧ r.some_.length = 0 ∧ r.forall_.length = 0
    ·repeat' ((first|refine nI ?_|refine aI ?_|refine tI ?_|refine fI ?_|fail);conv=>whnf)
     exact ⟨(k + 1, true, false), sI, ⟨by dsimp only; omega, nx q1⟩, by dsimp only; omega⟩
    by_cases q2 : r.forall_.length = 0
    ·repeat' ((first|refine nI ?_|refine aI ?_|refine dI ?_|refine boxP rfl ?_|refine tI ?_|refine fI ?_|refine cmpI (fun _=>?_) (fun _=>?_)) <;> conv=>whnf)
     all_goals exact ⟨(k + 1, false, false), sI, ⟨by dsimp only; omega, no q1⟩, by dsimp only; omega⟩
    ·repeat' ((first|refine nI ?_|refine aI ?_|refine dI ?_|refine boxP rfl ?_|refine tI ?_|refine fI ?_|refine cmpI (fun _=>?_) (fun _=>?_)) <;> conv=>whnf)
     all_goals exact ⟨(k + 1, false, true), sI, ⟨by dsimp only; omega, no q1⟩, by dsimp only; omega⟩
   |true =>
    conv=>whnf
    by_cases q1 : r.kind = 1 ∧ r.src < r.dst ∧ r.some_.length = 0 ∧ r.forall_.length = 0
    ·repeat' ((first|refine nI ?_|refine aI ?_|refine tI ?_|refine fI ?_|fail);conv=>whnf)
     exact ⟨(k + 1, true, true), sI, ⟨by dsimp only; omega, nx q1⟩, by dsimp only; omega⟩
    by_cases q2 : r.forall_.length = 0
    ·repeat' ((first|refine nI ?_|refine aI ?_|refine dI ?_|refine boxP rfl ?_|refine tI ?_|refine fI ?_|refine cmpI (fun _=>?_) (fun _=>?_)) <;> conv=>whnf)
     all_goals exact ⟨(k + 1, false, true), sI, ⟨by dsimp only; omega, no q1⟩, by dsimp only; omega⟩
    ·repeat' ((first|refine nI ?_|refine aI ?_|refine dI ?_|refine boxP rfl ?_|refine tI ?_|refine fI ?_|refine cmpI (fun _=>?_) (fun _=>?_)) <;> conv=>whnf)
     all_goals exact ⟨(k + 1, false, true), sI, ⟨by dsimp only; omega, no q1⟩, by dsimp only; omega⟩
 ·obtain rfl : k = p.rules.length:=by omega
  cases a with
  |false =>
   have e : decide (thrB p) = false:=decide_eq_false fun h=>by have:=hb.2 h.2.2; cases this
   cases b with
   |false =>
    conv=>whnf
    repeat' ((first|refine nI ?_|refine aI ?_|refine tI ?_|refine fI ?_|fail);conv=>whnf)
    refine ⟨⟨true, false, false, true, ?_⟩, rfl⟩
    rw [e]
    rfl
   |true =>
    conv=>whnf
    repeat' ((first|refine nI ?_|refine aI ?_|refine tI ?_|refine fI ?_|fail);conv=>whnf)
    refine ⟨⟨false, false, false, true, ?_⟩, rfl⟩
    rw [e]
    rfl
  |true =>
   have e : decide (thrB p) = true:=decide_eq_true ⟨by omega, by omega, hb.1 rfl⟩
   cases b with
   |false =>
    conv=>whnf
    repeat' ((first|refine nI ?_|refine aI ?_|refine tI ?_|refine fI ?_|fail);conv=>whnf)
    refine ⟨⟨true, false, false, true, ?_⟩, rfl⟩
    rw [e]
    rfl
   |true =>
    conv=>whnf
    repeat' ((first|refine nI ?_|refine aI ?_|refine tI ?_|refine fI ?_|fail);conv=>whnf)
    refine ⟨⟨false, false, false, true, ?_⟩, rfl⟩
    rw [e]
    rfl
theorem classP1 (p : Pro) (hp : okP p) (hv : validE p = 0) (h0 : p.topology = 1 ∧ p.fault = 0 ∧ p.messages.length = 0 ∧ p.resilience.length = 0 ∧ p.values.length = 0 ∧ ¬ p.states.length ≤ 4) : PSpec Tryz.prog 45 [.agg (encP p)] (clsT p):=by
 have hle:=okP_le hp
 refine PSpec.intro tt_ok mx_ok Tryz.func45 rfl (by decide) ?_; (conv=>whnf)
 refine boxP rfl ?_
 conv=>whnf
 (refine oP (validateF p hp) ?_; conv=>whnf)
 refine fI ?_
 conv=>whnf
 refine WPc.loopF tt_ok mx_ok (fun z : Nat × Bool × Bool=>z.1 ≤ p.rules.length ∧ (z.2.1 = true ↔ ∀ j, j < z.1 → riseB (p.rules.getD j rul0))) (fun z=>[(5, .bool z.2.1), (6, .bool z.2.2), (20, .int .i64 (z.1 : Int))]) (fun z=>[(2, .box 96 [.bool false, .bool false, .bool false, .bool false, .bool false])]) (fun z=>p.rules.length - z.1) (0, true, false) ⟨Nat.zero_le _, fun _ j hj=>(by have : j < 0:=hj; omega), fun _=>rfl⟩ ?_; conv=>whnf
 refine ⟨sI, ?_⟩
 rintro ⟨k, a, b⟩ ⟨hk, hb⟩
 dsimp only at hk hb ⊢
 conv=>whnf
 refine cmpI ?_ ?_ <;> (intro h1; conv=>whnf)
 ·have hlt : k < p.rules.length:=by omega
  refine nI ?_
  rw [tN]
  have nx:=ris_up hb
  have no:=ris_no (p:=p) (k:=k)
  unfold riseB at nx no
  generalize p.rules.getD k rul0 = r at nx no
  cases a with
  |false =>
   cases b with
   |false =>
    conv=>whnf
    by_cases q1 : r.kind = 1 ∧ r.src < r.dst ∧ r.some_.length = 0 ∧ r.forall_.length = 0
    ·repeat' ((first|refine nI ?_|refine aI ?_|refine tI ?_|refine fI ?_|fail);conv=>whnf)
     exact ⟨(k + 1, false, false), sI, ⟨by dsimp only; omega, nx q1⟩, by dsimp only; omega⟩
    by_cases q2 : r.forall_.length = 0
    ·repeat' ((first|refine nI ?_|refine aI ?_|refine dI ?_|refine boxP rfl ?_|refine tI ?_|refine fI ?_|refine cmpI (fun _=>?_) (fun _=>?_)) <;> conv=>whnf)
     all_goals exact ⟨(k + 1, false, false), sI, ⟨by dsimp only; omega, no q1⟩, by dsimp only; omega⟩
    ·repeat' ((first|refine nI ?_|refine aI ?_|refine dI ?_|refine boxP rfl ?_|refine tI ?_|refine fI ?_|refine cmpI (fun _=>?_) (fun _=>?_)) <;> conv=>whnf)
     all_goals exact ⟨(k + 1, false, true), sI, ⟨by dsimp only; omega, no q1⟩, by dsimp only; omega⟩
   |true =>
    conv=>whnf
    by_cases q1 : r.kind = 1 ∧ r.src < r.dst ∧ r.some_.length = 0 ∧ r.forall_.length = 0
    ·repeat' ((first|refine nI ?_|refine aI ?_|refine tI ?_|refine fI ?_|fail);conv=>whnf)
     exact ⟨(k + 1, false, true), sI, ⟨by dsimp only; omega, nx q1⟩, by dsimp only; omega⟩
    by_cases q2 : r.forall_.length = 0
    ·repeat' ((first|refine nI ?_|refine aI ?_|refine dI ?_|refine boxP rfl ?_|refine tI ?_|refine fI ?_|refine cmpI (fun _=>?_) (fun _=>?_)) <;> conv=>whnf)
     all_goals exact ⟨(k + 1, false, true), sI, ⟨by dsimp only; omega, no q1⟩, by dsimp only; omega⟩
    ·repeat' ((first|refine nI ?_|refine aI ?_|refine dI ?_|refine boxP rfl ?_|refine tI ?_|refine fI ?_|refine cmpI (fun _=>?_) (fun _=>?_)) <;> conv=>whnf)
     all_goals exact ⟨(k + 1, false, true), sI, ⟨by dsimp only; omega, no q1⟩, by dsimp only; omega⟩
  |true =>
   cases b with
   |false =>
    conv=>whnf
    by_cases q1 : r.kind = 1 ∧ r.src < r.dst ∧ r.some_.length = 0 ∧ r.forall_.length = 0
    ·repeat' ((first|refine nI ?_|refine aI ?_|refine tI ?_|refine fI ?_|fail);conv=>whnf)
     exact ⟨(k + 1, true, false), sI, ⟨by dsimp only; omega, nx q1⟩, by dsimp only; omega⟩
    by_cases q2 : r.forall_.length = 0
    ·repeat' ((first|refine nI ?_|refine aI ?_|refine dI ?_|refine boxP rfl ?_|refine tI ?_|refine fI ?_|refine cmpI (fun _=>?_) (fun _=>?_)) <;> conv=>whnf)
     all_goals exact ⟨(k + 1, false, false), sI, ⟨by dsimp only; omega, no q1⟩, by dsimp only; omega⟩
    ·repeat' ((first|refine nI ?_|refine aI ?_|refine dI ?_|refine boxP rfl ?_|refine tI ?_|refine fI ?_|refine cmpI (fun _=>?_) (fun _=>?_)) <;> conv=>whnf)
     all_goals exact ⟨(k + 1, false, true), sI, ⟨by dsimp only; omega, no q1⟩, by dsimp only; omega⟩
   |true =>
    conv=>whnf
    by_cases q1 : r.kind = 1 ∧ r.src < r.dst ∧ r.some_.length = 0 ∧ r.forall_.length = 0
    ·repeat' ((first|refine nI ?_|refine aI ?_|refine tI ?_|refine fI ?_|fail);conv=>whnf)
     exact ⟨(k + 1, true, true), sI, ⟨by dsimp only; omega, nx q1⟩, by dsimp only; omega⟩
    by_cases q2 : r.forall_.length = 0
    ·repeat' ((first|refine nI ?_|refine aI ?_|refine dI ?_|refine boxP rfl ?_|refine tI ?_|refine fI ?_|refine cmpI (fun _=>?_) (fun _=>?_)) <;> conv=>whnf)
     all_goals exact ⟨(k + 1, false, true), sI, ⟨by dsimp only; omega, no q1⟩, by dsimp only; omega⟩
    ·repeat' ((first|refine nI ?_|refine aI ?_|refine dI ?_|refine boxP rfl ?_|refine tI ?_|refine fI ?_|refine cmpI (fun _=>?_) (fun _=>?_)) <;> conv=>whnf)
     all_goals exact ⟨(k + 1, false, true), sI, ⟨by dsimp only; omega, no q1⟩, by dsimp only; omega⟩
 ·obtain rfl : k = p.rules.length:=by omega
  cases a with
  |false =>
   have e : decide (thrB p) = false:=decide_eq_false fun h=>by have:=hb.2 h.2.2; cases this
   cases b with
   |false =>
    conv=>whnf
    repeat' ((first|refine nI ?_|refine aI ?_|refine tI ?_|refine fI ?_|fail);conv=>whnf)
    refine ⟨⟨true, false, false, false, ?_⟩, rfl⟩
    rw [e]
    rfl
   |true =>
    conv=>whnf
    repeat' ((first|refine nI ?_|refine aI ?_|refine tI ?_|refine fI ?_|fail);conv=>whnf)
    refine ⟨⟨false, false, false, false, ?_⟩, rfl⟩
    rw [e]
    rfl
  |true =>
   have e : decide (thrB p) = true:=decide_eq_true ⟨by omega, by omega, hb.1 rfl⟩
   cases b with
   |false =>
    conv=>whnf
    repeat' ((first|refine nI ?_|refine aI ?_|refine tI ?_|refine fI ?_|fail);conv=>whnf)
    refine ⟨⟨true, false, false, false, ?_⟩, rfl⟩
    rw [e]
    rfl
   |true =>
    conv=>whnf
    repeat' ((first|refine nI ?_|refine aI ?_|refine tI ?_|refine fI ?_|fail);conv=>whnf)
    refine ⟨⟨false, false, false, false, ?_⟩, rfl⟩
    rw [e]
    rfl
theorem classP2 (p : Pro) (hp : okP p) (hv : validE p = 0) (h0 : p.topology = 1 ∧ ¬ p.fault = 0 ∧ p.values.length = 0) : PSpec Tryz.prog 45 [.agg (encP p)] (clsT p):=by
 have hle:=okP_le hp
 refine PSpec.intro tt_ok mx_ok Tryz.func45 rfl (by decide) ?_; (conv=>whnf)
 refine boxP rfl ?_
 conv=>whnf
 (refine oP (validateF p hp) ?_; conv=>whnf)
 refine fI ?_
 conv=>whnf
 refine WPc.loopF tt_ok mx_ok (fun z : Nat × Bool × Bool=>z.1 ≤ p.rules.length ∧ (z.2.1 = true ↔ ∀ j, j < z.1 → riseB (p.rules.getD j rul0))) (fun z=>[(5, .bool z.2.1), (6, .bool z.2.2), (20, .int .i64 (z.1 : Int))]) (fun z=>[(2, .box 96 [.bool false, .bool false, .bool false, .bool false, .bool false])]) (fun z=>p.rules.length - z.1) (0, true, false) ⟨Nat.zero_le _, fun _ j hj=>(by have : j < 0:=hj; omega), fun _=>rfl⟩ ?_; conv=>whnf
 refine ⟨sI, ?_⟩
 rintro ⟨k, a, b⟩ ⟨hk, hb⟩
 dsimp only at hk hb ⊢
 conv=>whnf
 refine cmpI ?_ ?_ <;> (intro h1; conv=>whnf)
 ·have hlt : k < p.rules.length:=by omega
  refine nI ?_
  rw [tN]
  have nx:=ris_up hb
  have no:=ris_no (p:=p) (k:=k)
  unfold riseB at nx no
  generalize p.rules.getD k rul0 = r at nx no
  cases a with
  |false =>
   cases b with
   |false =>
    conv=>whnf
    by_cases q1 : r.kind = 1 ∧ r.src < r.dst ∧ r.some_.length = 0 ∧ r.forall_.length = 0
    ·repeat' ((first|refine nI ?_|refine aI ?_|refine tI ?_|refine fI ?_|fail);conv=>whnf)
     exact ⟨(k + 1, false, false), sI, ⟨by dsimp only; omega, nx q1⟩, by dsimp only; omega⟩
    by_cases q2 : r.forall_.length = 0
    ·repeat' ((first|refine nI ?_|refine aI ?_|refine dI ?_|refine boxP rfl ?_|refine tI ?_|refine fI ?_|refine cmpI (fun _=>?_) (fun _=>?_)) <;> conv=>whnf)
     all_goals exact ⟨(k + 1, false, false), sI, ⟨by dsimp only; omega, no q1⟩, by dsimp only; omega⟩
    ·repeat' ((first|refine nI ?_|refine aI ?_|refine dI ?_|refine boxP rfl ?_|refine tI ?_|refine fI ?_|refine cmpI (fun _=>?_) (fun _=>?_)) <;> conv=>whnf)
     all_goals exact ⟨(k + 1, false, true), sI, ⟨by dsimp only; omega, no q1⟩, by dsimp only; omega⟩
   |true =>
    conv=>whnf
    by_cases q1 : r.kind = 1 ∧ r.src < r.dst ∧ r.some_.length = 0 ∧ r.forall_.length = 0
    ·repeat' ((first|refine nI ?_|refine aI ?_|refine tI ?_|refine fI ?_|fail);conv=>whnf)
     exact ⟨(k + 1, false, true), sI, ⟨by dsimp only; omega, nx q1⟩, by dsimp only; omega⟩
    by_cases q2 : r.forall_.length = 0
    ·repeat' ((first|refine nI ?_|refine aI ?_|refine dI ?_|refine boxP rfl ?_|refine tI ?_|refine fI ?_|refine cmpI (fun _=>?_) (fun _=>?_)) <;> conv=>whnf)
     all_goals exact ⟨(k + 1, false, true), sI, ⟨by dsimp only; omega, no q1⟩, by dsimp only; omega⟩
    ·repeat' ((first|refine nI ?_|refine aI ?_|refine dI ?_|refine boxP rfl ?_|refine tI ?_|refine fI ?_|refine cmpI (fun _=>?_) (fun _=>?_)) <;> conv=>whnf)
     all_goals exact ⟨(k + 1, false, true), sI, ⟨by dsimp only; omega, no q1⟩, by dsimp only; omega⟩
  |true =>
   cases b with
   |false =>
    conv=>whnf
    by_cases q1 : r.kind = 1 ∧ r.src < r.dst ∧ r.some_.length = 0 ∧ r.forall_.length = 0
    ·repeat' ((first|refine nI ?_|refine aI ?_|refine tI ?_|refine fI ?_|fail);conv=>whnf)
     exact ⟨(k + 1, true, false), sI, ⟨by dsimp only; omega, nx q1⟩, by dsimp only; omega⟩
    by_cases q2 : r.forall_.length = 0
    ·repeat' ((first|refine nI ?_|refine aI ?_|refine dI ?_|refine boxP rfl ?_|refine tI ?_|refine fI ?_|refine cmpI (fun _=>?_) (fun _=>?_)) <;> conv=>whnf)
     all_goals exact ⟨(k + 1, false, false), sI, ⟨by dsimp only; omega, no q1⟩, by dsimp only; omega⟩
    ·repeat' ((first|refine nI ?_|refine aI ?_|refine dI ?_|refine boxP rfl ?_|refine tI ?_|refine fI ?_|refine cmpI (fun _=>?_) (fun _=>?_)) <;> conv=>whnf)
     all_goals exact ⟨(k + 1, false, true), sI, ⟨by dsimp only; omega, no q1⟩, by dsimp only; omega⟩
   |true =>
    conv=>whnf
    by_cases q1 : r.kind = 1 ∧ r.src < r.dst ∧ r.some_.length = 0 ∧ r.forall_.length = 0
    ·repeat' ((first|refine nI ?_|refine aI ?_|refine tI ?_|refine fI ?_|fail);conv=>whnf)
     exact ⟨(k + 1, true, true), sI, ⟨by dsimp only; omega, nx q1⟩, by dsimp only; omega⟩
    by_cases q2 : r.forall_.length = 0
    ·repeat' ((first|refine nI ?_|refine aI ?_|refine dI ?_|refine boxP rfl ?_|refine tI ?_|refine fI ?_|refine cmpI (fun _=>?_) (fun _=>?_)) <;> conv=>whnf)
     all_goals exact ⟨(k + 1, false, true), sI, ⟨by dsimp only; omega, no q1⟩, by dsimp only; omega⟩
    ·repeat' ((first|refine nI ?_|refine aI ?_|refine dI ?_|refine boxP rfl ?_|refine tI ?_|refine fI ?_|refine cmpI (fun _=>?_) (fun _=>?_)) <;> conv=>whnf)
     all_goals exact ⟨(k + 1, false, true), sI, ⟨by dsimp only; omega, no q1⟩, by dsimp only; omega⟩
 ·obtain rfl : k = p.rules.length:=by omega
  cases a with
  |false =>
   have e : decide (thrB p) = false:=decide_eq_false fun h=>by have:=hb.2 h.2.2; cases this
   cases b with
   |false =>
    conv=>whnf
    repeat' ((first|refine nI ?_|refine aI ?_|refine tI ?_|refine fI ?_|fail);conv=>whnf)
    refine ⟨⟨false, false, false, false, ?_⟩, rfl⟩
    rw [e]
    rfl
   |true =>
    conv=>whnf
    repeat' ((first|refine nI ?_|refine aI ?_|refine tI ?_|refine fI ?_|fail);conv=>whnf)
    refine ⟨⟨false, false, false, false, ?_⟩, rfl⟩
    rw [e]
    rfl
  |true =>
   have e : decide (thrB p) = true:=decide_eq_true ⟨by omega, by omega, hb.1 rfl⟩
   cases b with
   |false =>
    conv=>whnf
    repeat' ((first|refine nI ?_|refine aI ?_|refine tI ?_|refine fI ?_|fail);conv=>whnf)
    refine ⟨⟨false, false, false, false, ?_⟩, rfl⟩
    rw [e]
    rfl
   |true =>
    conv=>whnf
    repeat' ((first|refine nI ?_|refine aI ?_|refine tI ?_|refine fI ?_|fail);conv=>whnf)
    refine ⟨⟨false, false, false, false, ?_⟩, rfl⟩
    rw [e]
    rfl
theorem classP3 (p : Pro) (hp : okP p) (hv : validE p = 0) (h0 : p.topology = 1 ∧ p.fault = 0 ∧ ¬ p.messages.length = 0 ∧ p.values.length = 0) : PSpec Tryz.prog 45 [.agg (encP p)] (clsT p):=by
 have hle:=okP_le hp
 refine PSpec.intro tt_ok mx_ok Tryz.func45 rfl (by decide) ?_; (conv=>whnf)
 refine boxP rfl ?_
 conv=>whnf
 (refine oP (validateF p hp) ?_; conv=>whnf)
 refine fI ?_
 conv=>whnf
 refine WPc.loopF tt_ok mx_ok (fun z : Nat × Bool × Bool=>z.1 ≤ p.rules.length ∧ (z.2.1 = true ↔ ∀ j, j < z.1 → riseB (p.rules.getD j rul0))) (fun z=>[(5, .bool z.2.1), (6, .bool z.2.2), (20, .int .i64 (z.1 : Int))]) (fun z=>[(2, .box 96 [.bool false, .bool false, .bool false, .bool false, .bool false])]) (fun z=>p.rules.length - z.1) (0, true, false) ⟨Nat.zero_le _, fun _ j hj=>(by have : j < 0:=hj; omega), fun _=>rfl⟩ ?_; conv=>whnf
 refine ⟨sI, ?_⟩
 rintro ⟨k, a, b⟩ ⟨hk, hb⟩
 dsimp only at hk hb ⊢
 conv=>whnf
 refine cmpI ?_ ?_ <;> (intro h1; conv=>whnf)
 ·have hlt : k < p.rules.length:=by omega
  refine nI ?_
  rw [tN]
  have nx:=ris_up hb
  have no:=ris_no (p:=p) (k:=k)
  unfold riseB at nx no
  generalize p.rules.getD k rul0 = r at nx no
  cases a with
  |false =>
   cases b with
   |false =>
    conv=>whnf
    by_cases q1 : r.kind = 1 ∧ r.src < r.dst ∧ r.some_.length = 0 ∧ r.forall_.length = 0
    ·repeat' ((first|refine nI ?_|refine aI ?_|refine tI ?_|refine fI ?_|fail);conv=>whnf)
     exact ⟨(k + 1, false, false), sI, ⟨by dsimp only; omega, nx q1⟩, by dsimp only; omega⟩
    by_cases q2 : r.forall_.length = 0
    ·repeat' ((first|refine nI ?_|refine aI ?_|refine dI ?_|refine boxP rfl ?_|refine tI ?_|refine fI ?_|refine cmpI (fun _=>?_) (fun _=>?_)) <;> conv=>whnf)
     all_goals exact ⟨(k + 1, false, false), sI, ⟨by dsimp only; omega, no q1⟩, by dsimp only; omega⟩
    ·repeat' ((first|refine nI ?_|refine aI ?_|refine dI ?_|refine boxP rfl ?_|refine tI ?_|refine fI ?_|refine cmpI (fun _=>?_) (fun _=>?_)) <;> conv=>whnf)
     all_goals exact ⟨(k + 1, false, true), sI, ⟨by dsimp only; omega, no q1⟩, by dsimp only; omega⟩
   |true =>
    conv=>whnf
    by_cases q1 : r.kind = 1 ∧ r.src < r.dst ∧ r.some_.length = 0 ∧ r.forall_.length = 0
    ·repeat' ((first|refine nI ?_|refine aI ?_|refine tI ?_|refine fI ?_|fail);conv=>whnf)
     exact ⟨(k + 1, false, true), sI, ⟨by dsimp only; omega, nx q1⟩, by dsimp only; omega⟩
    by_cases q2 : r.forall_.length = 0
    ·repeat' ((first|refine nI ?_|refine aI ?_|refine dI ?_|refine boxP rfl ?_|refine tI ?_|refine fI ?_|refine cmpI (fun _=>?_) (fun _=>?_)) <;> conv=>whnf)
     all_goals exact ⟨(k + 1, false, true), sI, ⟨by dsimp only; omega, no q1⟩, by dsimp only; omega⟩
    ·repeat' ((first|refine nI ?_|refine aI ?_|refine dI ?_|refine boxP rfl ?_|refine tI ?_|refine fI ?_|refine cmpI (fun _=>?_) (fun _=>?_)) <;> conv=>whnf)
     all_goals exact ⟨(k + 1, false, true), sI, ⟨by dsimp only; omega, no q1⟩, by dsimp only; omega⟩
  |true =>
   cases b with
   |false =>
    conv=>whnf
    by_cases q1 : r.kind = 1 ∧ r.src < r.dst ∧ r.some_.length = 0 ∧ r.forall_.length = 0
    ·repeat' ((first|refine nI ?_|refine aI ?_|refine tI ?_|refine fI ?_|fail);conv=>whnf)
     exact ⟨(k + 1, true, false), sI, ⟨by dsimp only; omega, nx q1⟩, by dsimp only; omega⟩
    by_cases q2 : r.forall_.length = 0
    ·repeat' ((first|refine nI ?_|refine aI ?_|refine dI ?_|refine boxP rfl ?_|refine tI ?_|refine fI ?_|refine cmpI (fun _=>?_) (fun _=>?_)) <;> conv=>whnf)
     all_goals exact ⟨(k + 1, false, false), sI, ⟨by dsimp only; omega, no q1⟩, by dsimp only; omega⟩
    ·repeat' ((first|refine nI ?_|refine aI ?_|refine dI ?_|refine boxP rfl ?_|refine tI ?_|refine fI ?_|refine cmpI (fun _=>?_) (fun _=>?_)) <;> conv=>whnf)
     all_goals exact ⟨(k + 1, false, true), sI, ⟨by dsimp only; omega, no q1⟩, by dsimp only; omega⟩
   |true =>
    conv=>whnf
    by_cases q1 : r.kind = 1 ∧ r.src < r.dst ∧ r.some_.length = 0 ∧ r.forall_.length = 0
    ·repeat' ((first|refine nI ?_|refine aI ?_|refine tI ?_|refine fI ?_|fail);conv=>whnf)
     exact ⟨(k + 1, true, true), sI, ⟨by dsimp only; omega, nx q1⟩, by dsimp only; omega⟩
    by_cases q2 : r.forall_.length = 0
    ·repeat' ((first|refine nI ?_|refine aI ?_|refine dI ?_|refine boxP rfl ?_|refine tI ?_|refine fI ?_|refine cmpI (fun _=>?_) (fun _=>?_)) <;> conv=>whnf)
     all_goals exact ⟨(k + 1, false, true), sI, ⟨by dsimp only; omega, no q1⟩, by dsimp only; omega⟩
    ·repeat' ((first|refine nI ?_|refine aI ?_|refine dI ?_|refine boxP rfl ?_|refine tI ?_|refine fI ?_|refine cmpI (fun _=>?_) (fun _=>?_)) <;> conv=>whnf)
     all_goals exact ⟨(k + 1, false, true), sI, ⟨by dsimp only; omega, no q1⟩, by dsimp only; omega⟩
 ·obtain rfl : k = p.rules.length:=by omega
  cases a with
  |false =>
   have e : decide (thrB p) = false:=decide_eq_false fun h=>by have:=hb.2 h.2.2; cases this
   cases b with
   |false =>
    conv=>whnf
    repeat' ((first|refine nI ?_|refine aI ?_|refine tI ?_|refine fI ?_|fail);conv=>whnf)
    refine ⟨⟨false, false, false, false, ?_⟩, rfl⟩
    rw [e]
    rfl
   |true =>
    conv=>whnf
    repeat' ((first|refine nI ?_|refine aI ?_|refine tI ?_|refine fI ?_|fail);conv=>whnf)
    refine ⟨⟨false, false, false, false, ?_⟩, rfl⟩
    rw [e]
    rfl
  |true =>
   have e : decide (thrB p) = true:=decide_eq_true ⟨by omega, by omega, hb.1 rfl⟩
   cases b with
   |false =>
    conv=>whnf
    repeat' ((first|refine nI ?_|refine aI ?_|refine tI ?_|refine fI ?_|fail);conv=>whnf)
    refine ⟨⟨false, false, false, false, ?_⟩, rfl⟩
    rw [e]
    rfl
   |true =>
    conv=>whnf
    repeat' ((first|refine nI ?_|refine aI ?_|refine tI ?_|refine fI ?_|fail);conv=>whnf)
    refine ⟨⟨false, false, false, false, ?_⟩, rfl⟩
    rw [e]
    rfl
theorem classP4 (p : Pro) (hp : okP p) (hv : validE p = 0) (h0 : p.topology = 1 ∧ p.fault = 0 ∧ p.messages.length = 0 ∧ ¬ p.resilience.length = 0 ∧ p.values.length = 0) : PSpec Tryz.prog 45 [.agg (encP p)] (clsT p):=by
 have hle:=okP_le hp
 refine PSpec.intro tt_ok mx_ok Tryz.func45 rfl (by decide) ?_; (conv=>whnf)
 refine boxP rfl ?_
 conv=>whnf
 (refine oP (validateF p hp) ?_; conv=>whnf)
 refine fI ?_
 conv=>whnf
 refine WPc.loopF tt_ok mx_ok (fun z : Nat × Bool × Bool=>z.1 ≤ p.rules.length ∧ (z.2.1 = true ↔ ∀ j, j < z.1 → riseB (p.rules.getD j rul0))) (fun z=>[(5, .bool z.2.1), (6, .bool z.2.2), (20, .int .i64 (z.1 : Int))]) (fun z=>[(2, .box 96 [.bool false, .bool false, .bool false, .bool false, .bool false])]) (fun z=>p.rules.length - z.1) (0, true, false) ⟨Nat.zero_le _, fun _ j hj=>(by have : j < 0:=hj; omega), fun _=>rfl⟩ ?_; conv=>whnf
 refine ⟨sI, ?_⟩
 rintro ⟨k, a, b⟩ ⟨hk, hb⟩
 dsimp only at hk hb ⊢
 conv=>whnf
 refine cmpI ?_ ?_ <;> (intro h1; conv=>whnf)
 ·have hlt : k < p.rules.length:=by omega
  refine nI ?_
  rw [tN]
  have nx:=ris_up hb
  have no:=ris_no (p:=p) (k:=k)
  unfold riseB at nx no
  generalize p.rules.getD k rul0 = r at nx no
  cases a with
  |false =>
   cases b with
   |false =>
    conv=>whnf
    by_cases q1 : r.kind = 1 ∧ r.src < r.dst ∧ r.some_.length = 0 ∧ r.forall_.length = 0
    ·repeat' ((first|refine nI ?_|refine aI ?_|refine tI ?_|refine fI ?_|fail);conv=>whnf)
     exact ⟨(k + 1, false, false), sI, ⟨by dsimp only; omega, nx q1⟩, by dsimp only; omega⟩
    by_cases q2 : r.forall_.length = 0
    ·repeat' ((first|refine nI ?_|refine aI ?_|refine dI ?_|refine boxP rfl ?_|refine tI ?_|refine fI ?_|refine cmpI (fun _=>?_) (fun _=>?_)) <;> conv=>whnf)
     all_goals exact ⟨(k + 1, false, false), sI, ⟨by dsimp only; omega, no q1⟩, by dsimp only; omega⟩
    ·repeat' ((first|refine nI ?_|refine aI ?_|refine dI ?_|refine boxP rfl ?_|refine tI ?_|refine fI ?_|refine cmpI (fun _=>?_) (fun _=>?_)) <;> conv=>whnf)
     all_goals exact ⟨(k + 1, false, true), sI, ⟨by dsimp only; omega, no q1⟩, by dsimp only; omega⟩
   |true =>
    conv=>whnf
    by_cases q1 : r.kind = 1 ∧ r.src < r.dst ∧ r.some_.length = 0 ∧ r.forall_.length = 0
    ·repeat' ((first|refine nI ?_|refine aI ?_|refine tI ?_|refine fI ?_|fail);conv=>whnf)
     exact ⟨(k + 1, false, true), sI, ⟨by dsimp only; omega, nx q1⟩, by dsimp only; omega⟩
    by_cases q2 : r.forall_.length = 0
    ·repeat' ((first|refine nI ?_|refine aI ?_|refine dI ?_|refine boxP rfl ?_|refine tI ?_|refine fI ?_|refine cmpI (fun _=>?_) (fun _=>?_)) <;> conv=>whnf)
     all_goals exact ⟨(k + 1, false, true), sI, ⟨by dsimp only; omega, no q1⟩, by dsimp only; omega⟩
    ·repeat' ((first|refine nI ?_|refine aI ?_|refine dI ?_|refine boxP rfl ?_|refine tI ?_|refine fI ?_|refine cmpI (fun _=>?_) (fun _=>?_)) <;> conv=>whnf)
     all_goals exact ⟨(k + 1, false, true), sI, ⟨by dsimp only; omega, no q1⟩, by dsimp only; omega⟩
  |true =>
   cases b with
   |false =>
    conv=>whnf
    by_cases q1 : r.kind = 1 ∧ r.src < r.dst ∧ r.some_.length = 0 ∧ r.forall_.length = 0
    ·repeat' ((first|refine nI ?_|refine aI ?_|refine tI ?_|refine fI ?_|fail);conv=>whnf)
     exact ⟨(k + 1, true, false), sI, ⟨by dsimp only; omega, nx q1⟩, by dsimp only; omega⟩
    by_cases q2 : r.forall_.length = 0
    ·repeat' ((first|refine nI ?_|refine aI ?_|refine dI ?_|refine boxP rfl ?_|refine tI ?_|refine fI ?_|refine cmpI (fun _=>?_) (fun _=>?_)) <;> conv=>whnf)
     all_goals exact ⟨(k + 1, false, false), sI, ⟨by dsimp only; omega, no q1⟩, by dsimp only; omega⟩
    ·repeat' ((first|refine nI ?_|refine aI ?_|refine dI ?_|refine boxP rfl ?_|refine tI ?_|refine fI ?_|refine cmpI (fun _=>?_) (fun _=>?_)) <;> conv=>whnf)
     all_goals exact ⟨(k + 1, false, true), sI, ⟨by dsimp only; omega, no q1⟩, by dsimp only; omega⟩
   |true =>
    conv=>whnf
    by_cases q1 : r.kind = 1 ∧ r.src < r.dst ∧ r.some_.length = 0 ∧ r.forall_.length = 0
    ·repeat' ((first|refine nI ?_|refine aI ?_|refine tI ?_|refine fI ?_|fail);conv=>whnf)
     exact ⟨(k + 1, true, true), sI, ⟨by dsimp only; omega, nx q1⟩, by dsimp only; omega⟩
    by_cases q2 : r.forall_.length = 0
    ·repeat' ((first|refine nI ?_|refine aI ?_|refine dI ?_|refine boxP rfl ?_|refine tI ?_|refine fI ?_|refine cmpI (fun _=>?_) (fun _=>?_)) <;> conv=>whnf)
     all_goals exact ⟨(k + 1, false, true), sI, ⟨by dsimp only; omega, no q1⟩, by dsimp only; omega⟩
    ·repeat' ((first|refine nI ?_|refine aI ?_|refine dI ?_|refine boxP rfl ?_|refine tI ?_|refine fI ?_|refine cmpI (fun _=>?_) (fun _=>?_)) <;> conv=>whnf)
     all_goals exact ⟨(k + 1, false, true), sI, ⟨by dsimp only; omega, no q1⟩, by dsimp only; omega⟩
 ·obtain rfl : k = p.rules.length:=by omega
  cases a with
  |false =>
   have e : decide (thrB p) = false:=decide_eq_false fun h=>by have:=hb.2 h.2.2; cases this
   cases b with
   |false =>
    conv=>whnf
    repeat' ((first|refine nI ?_|refine aI ?_|refine tI ?_|refine fI ?_|fail);conv=>whnf)
    refine ⟨⟨false, false, false, false, ?_⟩, rfl⟩
    rw [e]
    rfl
   |true =>
    conv=>whnf
    repeat' ((first|refine nI ?_|refine aI ?_|refine tI ?_|refine fI ?_|fail);conv=>whnf)
    refine ⟨⟨false, false, false, false, ?_⟩, rfl⟩
    rw [e]
    rfl
  |true =>
   have e : decide (thrB p) = true:=decide_eq_true ⟨by omega, by omega, hb.1 rfl⟩
   cases b with
   |false =>
    conv=>whnf
    repeat' ((first|refine nI ?_|refine aI ?_|refine tI ?_|refine fI ?_|fail);conv=>whnf)
    refine ⟨⟨false, false, false, false, ?_⟩, rfl⟩
    rw [e]
    rfl
   |true =>
    conv=>whnf
    repeat' ((first|refine nI ?_|refine aI ?_|refine tI ?_|refine fI ?_|fail);conv=>whnf)
    refine ⟨⟨false, false, false, false, ?_⟩, rfl⟩
    rw [e]
    rfl
theorem classP5 (p : Pro) (hp : okP p) (hv : validE p = 0) (h0 : p.topology = 1 ∧ p.fault = 0 ∧ p.messages.length = 0 ∧ p.resilience.length = 0 ∧ ¬ p.values.length = 0 ∧ p.states.length ≤ 4) : PSpec Tryz.prog 45 [.agg (encP p)] (clsT p):=by
 have hle:=okP_le hp
 refine PSpec.intro tt_ok mx_ok Tryz.func45 rfl (by decide) ?_; (conv=>whnf)
 refine boxP rfl ?_
 conv=>whnf
 (refine oP (validateF p hp) ?_; conv=>whnf)
 refine fI ?_
 conv=>whnf
 refine WPc.loopF tt_ok mx_ok (fun z : Nat × Bool × Bool=>z.1 ≤ p.rules.length ∧ (z.2.1 = true ↔ ∀ j, j < z.1 → riseB (p.rules.getD j rul0))) (fun z=>[(5, .bool z.2.1), (6, .bool z.2.2), (20, .int .i64 (z.1 : Int))]) (fun z=>[(2, .box 96 [.bool false, .bool false, .bool false, .bool false, .bool false])]) (fun z=>p.rules.length - z.1) (0, true, false) ⟨Nat.zero_le _, fun _ j hj=>(by have : j < 0:=hj; omega), fun _=>rfl⟩ ?_; conv=>whnf
 refine ⟨sI, ?_⟩
 rintro ⟨k, a, b⟩ ⟨hk, hb⟩
 dsimp only at hk hb ⊢
 conv=>whnf
 refine cmpI ?_ ?_ <;> (intro h1; conv=>whnf)
 ·have hlt : k < p.rules.length:=by omega
  refine nI ?_
  rw [tN]
  have nx:=ris_up hb
  have no:=ris_no (p:=p) (k:=k)
  unfold riseB at nx no
  generalize p.rules.getD k rul0 = r at nx no
  cases a with
  |false =>
   cases b with
   |false =>
    conv=>whnf
    by_cases q1 : r.kind = 1 ∧ r.src < r.dst ∧ r.some_.length = 0 ∧ r.forall_.length = 0
    ·repeat' ((first|refine nI ?_|refine aI ?_|refine tI ?_|refine fI ?_|fail);conv=>whnf)
     exact ⟨(k + 1, false, false), sI, ⟨by dsimp only; omega, nx q1⟩, by dsimp only; omega⟩
    by_cases q2 : r.forall_.length = 0
    ·repeat' ((first|refine nI ?_|refine aI ?_|refine dI ?_|refine boxP rfl ?_|refine tI ?_|refine fI ?_|refine cmpI (fun _=>?_) (fun _=>?_)) <;> conv=>whnf)
     all_goals exact ⟨(k + 1, false, false), sI, ⟨by dsimp only; omega, no q1⟩, by dsimp only; omega⟩
    ·repeat' ((first|refine nI ?_|refine aI ?_|refine dI ?_|refine boxP rfl ?_|refine tI ?_|refine fI ?_|refine cmpI (fun _=>?_) (fun _=>?_)) <;> conv=>whnf)
     all_goals exact ⟨(k + 1, false, true), sI, ⟨by dsimp only; omega, no q1⟩, by dsimp only; omega⟩
   |true =>
    conv=>whnf
    by_cases q1 : r.kind = 1 ∧ r.src < r.dst ∧ r.some_.length = 0 ∧ r.forall_.length = 0
    ·repeat' ((first|refine nI ?_|refine aI ?_|refine tI ?_|refine fI ?_|fail);conv=>whnf)
     exact ⟨(k + 1, false, true), sI, ⟨by dsimp only; omega, nx q1⟩, by dsimp only; omega⟩
    by_cases q2 : r.forall_.length = 0
    ·repeat' ((first|refine nI ?_|refine aI ?_|refine dI ?_|refine boxP rfl ?_|refine tI ?_|refine fI ?_|refine cmpI (fun _=>?_) (fun _=>?_)) <;> conv=>whnf)
     all_goals exact ⟨(k + 1, false, true), sI, ⟨by dsimp only; omega, no q1⟩, by dsimp only; omega⟩
    ·repeat' ((first|refine nI ?_|refine aI ?_|refine dI ?_|refine boxP rfl ?_|refine tI ?_|refine fI ?_|refine cmpI (fun _=>?_) (fun _=>?_)) <;> conv=>whnf)
     all_goals exact ⟨(k + 1, false, true), sI, ⟨by dsimp only; omega, no q1⟩, by dsimp only; omega⟩
  |true =>
   cases b with
   |false =>
    conv=>whnf
    by_cases q1 : r.kind = 1 ∧ r.src < r.dst ∧ r.some_.length = 0 ∧ r.forall_.length = 0
    ·repeat' ((first|refine nI ?_|refine aI ?_|refine tI ?_|refine fI ?_|fail);conv=>whnf)
     exact ⟨(k + 1, true, false), sI, ⟨by dsimp only; omega, nx q1⟩, by dsimp only; omega⟩
    by_cases q2 : r.forall_.length = 0
    ·repeat' ((first|refine nI ?_|refine aI ?_|refine dI ?_|refine boxP rfl ?_|refine tI ?_|refine fI ?_|refine cmpI (fun _=>?_) (fun _=>?_)) <;> conv=>whnf)
     all_goals exact ⟨(k + 1, false, false), sI, ⟨by dsimp only; omega, no q1⟩, by dsimp only; omega⟩
    ·repeat' ((first|refine nI ?_|refine aI ?_|refine dI ?_|refine boxP rfl ?_|refine tI ?_|refine fI ?_|refine cmpI (fun _=>?_) (fun _=>?_)) <;> conv=>whnf)
     all_goals exact ⟨(k + 1, false, true), sI, ⟨by dsimp only; omega, no q1⟩, by dsimp only; omega⟩
   |true =>
    conv=>whnf
    by_cases q1 : r.kind = 1 ∧ r.src < r.dst ∧ r.some_.length = 0 ∧ r.forall_.length = 0
    ·repeat' ((first|refine nI ?_|refine aI ?_|refine tI ?_|refine fI ?_|fail);conv=>whnf)
     exact ⟨(k + 1, true, true), sI, ⟨by dsimp only; omega, nx q1⟩, by dsimp only; omega⟩
    by_cases q2 : r.forall_.length = 0
    ·repeat' ((first|refine nI ?_|refine aI ?_|refine dI ?_|refine boxP rfl ?_|refine tI ?_|refine fI ?_|refine cmpI (fun _=>?_) (fun _=>?_)) <;> conv=>whnf)
     all_goals exact ⟨(k + 1, false, true), sI, ⟨by dsimp only; omega, no q1⟩, by dsimp only; omega⟩
    ·repeat' ((first|refine nI ?_|refine aI ?_|refine dI ?_|refine boxP rfl ?_|refine tI ?_|refine fI ?_|refine cmpI (fun _=>?_) (fun _=>?_)) <;> conv=>whnf)
     all_goals exact ⟨(k + 1, false, true), sI, ⟨by dsimp only; omega, no q1⟩, by dsimp only; omega⟩
 ·obtain rfl : k = p.rules.length:=by omega
  cases a with
  |false =>
   have e : decide (thrB p) = false:=decide_eq_false fun h=>by have:=h.1; have:=h.2.1; omega
   cases b with
   |false =>
    conv=>whnf
    repeat' ((first|refine nI ?_|refine aI ?_|refine tI ?_|refine fI ?_|fail);conv=>whnf)
    refine ⟨⟨true, false, false, true, ?_⟩, rfl⟩
    rw [e]
    rfl
   |true =>
    conv=>whnf
    repeat' ((first|refine nI ?_|refine aI ?_|refine tI ?_|refine fI ?_|fail);conv=>whnf)
    refine ⟨⟨false, false, false, true, ?_⟩, rfl⟩
    rw [e]
    rfl
  |true =>
   have e : decide (thrB p) = false:=decide_eq_false fun h=>by have:=h.1; have:=h.2.1; omega
   cases b with
   |false =>
    conv=>whnf
    repeat' ((first|refine nI ?_|refine aI ?_|refine tI ?_|refine fI ?_|fail);conv=>whnf)
    refine ⟨⟨true, false, false, true, ?_⟩, rfl⟩
    rw [e]
    rfl
   |true =>
    conv=>whnf
    repeat' ((first|refine nI ?_|refine aI ?_|refine tI ?_|refine fI ?_|fail);conv=>whnf)
    refine ⟨⟨false, false, false, true, ?_⟩, rfl⟩
    rw [e]
    rfl
theorem classP6 (p : Pro) (hp : okP p) (hv : validE p = 0) (h0 : p.topology = 1 ∧ p.fault = 0 ∧ p.messages.length = 0 ∧ p.resilience.length = 0 ∧ ¬ p.values.length = 0 ∧ ¬ p.states.length ≤ 4) : PSpec Tryz.prog 45 [.agg (encP p)] (clsT p):=by
 have hle:=okP_le hp
 refine PSpec.intro tt_ok mx_ok Tryz.func45 rfl (by decide) ?_; (conv=>whnf)
 refine boxP rfl ?_
 conv=>whnf
 (refine oP (validateF p hp) ?_; conv=>whnf)
 refine fI ?_
 conv=>whnf
 refine WPc.loopF tt_ok mx_ok (fun z : Nat × Bool × Bool=>z.1 ≤ p.rules.length ∧ (z.2.1 = true ↔ ∀ j, j < z.1 → riseB (p.rules.getD j rul0))) (fun z=>[(5, .bool z.2.1), (6, .bool z.2.2), (20, .int .i64 (z.1 : Int))]) (fun z=>[(2, .box 96 [.bool false, .bool false, .bool false, .bool false, .bool false])]) (fun z=>p.rules.length - z.1) (0, true, false) ⟨Nat.zero_le _, fun _ j hj=>(by have : j < 0:=hj; omega), fun _=>rfl⟩ ?_; conv=>whnf
 refine ⟨sI, ?_⟩
 rintro ⟨k, a, b⟩ ⟨hk, hb⟩
 dsimp only at hk hb ⊢
 conv=>whnf
 refine cmpI ?_ ?_ <;> (intro h1; conv=>whnf)
 ·have hlt : k < p.rules.length:=by omega
  refine nI ?_
  rw [tN]
  have nx:=ris_up hb
  have no:=ris_no (p:=p) (k:=k)
  unfold riseB at nx no
  generalize p.rules.getD k rul0 = r at nx no
  cases a with
  |false =>
   cases b with
   |false =>
    conv=>whnf
    by_cases q1 : r.kind = 1 ∧ r.src < r.dst ∧ r.some_.length = 0 ∧ r.forall_.length = 0
    ·repeat' ((first|refine nI ?_|refine aI ?_|refine tI ?_|refine fI ?_|fail);conv=>whnf)
     exact ⟨(k + 1, false, false), sI, ⟨by dsimp only; omega, nx q1⟩, by dsimp only; omega⟩
    by_cases q2 : r.forall_.length = 0
    ·repeat' ((first|refine nI ?_|refine aI ?_|refine dI ?_|refine boxP rfl ?_|refine tI ?_|refine fI ?_|refine cmpI (fun _=>?_) (fun _=>?_)) <;> conv=>whnf)
     all_goals exact ⟨(k + 1, false, false), sI, ⟨by dsimp only; omega, no q1⟩, by dsimp only; omega⟩
    ·repeat' ((first|refine nI ?_|refine aI ?_|refine dI ?_|refine boxP rfl ?_|refine tI ?_|refine fI ?_|refine cmpI (fun _=>?_) (fun _=>?_)) <;> conv=>whnf)
     all_goals exact ⟨(k + 1, false, true), sI, ⟨by dsimp only; omega, no q1⟩, by dsimp only; omega⟩
   |true =>
    conv=>whnf
    by_cases q1 : r.kind = 1 ∧ r.src < r.dst ∧ r.some_.length = 0 ∧ r.forall_.length = 0
    ·repeat' ((first|refine nI ?_|refine aI ?_|refine tI ?_|refine fI ?_|fail);conv=>whnf)
     exact ⟨(k + 1, false, true), sI, ⟨by dsimp only; omega, nx q1⟩, by dsimp only; omega⟩
    by_cases q2 : r.forall_.length = 0
    ·repeat' ((first|refine nI ?_|refine aI ?_|refine dI ?_|refine boxP rfl ?_|refine tI ?_|refine fI ?_|refine cmpI (fun _=>?_) (fun _=>?_)) <;> conv=>whnf)
     all_goals exact ⟨(k + 1, false, true), sI, ⟨by dsimp only; omega, no q1⟩, by dsimp only; omega⟩
    ·repeat' ((first|refine nI ?_|refine aI ?_|refine dI ?_|refine boxP rfl ?_|refine tI ?_|refine fI ?_|refine cmpI (fun _=>?_) (fun _=>?_)) <;> conv=>whnf)
     all_goals exact ⟨(k + 1, false, true), sI, ⟨by dsimp only; omega, no q1⟩, by dsimp only; omega⟩
  |true =>
   cases b with
   |false =>
    conv=>whnf
    by_cases q1 : r.kind = 1 ∧ r.src < r.dst ∧ r.some_.length = 0 ∧ r.forall_.length = 0
    ·repeat' ((first|refine nI ?_|refine aI ?_|refine tI ?_|refine fI ?_|fail);conv=>whnf)
     exact ⟨(k + 1, true, false), sI, ⟨by dsimp only; omega, nx q1⟩, by dsimp only; omega⟩
    by_cases q2 : r.forall_.length = 0
    ·repeat' ((first|refine nI ?_|refine aI ?_|refine dI ?_|refine boxP rfl ?_|refine tI ?_|refine fI ?_|refine cmpI (fun _=>?_) (fun _=>?_)) <;> conv=>whnf)
     all_goals exact ⟨(k + 1, false, false), sI, ⟨by dsimp only; omega, no q1⟩, by dsimp only; omega⟩
    ·repeat' ((first|refine nI ?_|refine aI ?_|refine dI ?_|refine boxP rfl ?_|refine tI ?_|refine fI ?_|refine cmpI (fun _=>?_) (fun _=>?_)) <;> conv=>whnf)
     all_goals exact ⟨(k + 1, false, true), sI, ⟨by dsimp only; omega, no q1⟩, by dsimp only; omega⟩
   |true =>
    conv=>whnf
    by_cases q1 : r.kind = 1 ∧ r.src < r.dst ∧ r.some_.length = 0 ∧ r.forall_.length = 0
    ·repeat' ((first|refine nI ?_|refine aI ?_|refine tI ?_|refine fI ?_|fail);conv=>whnf)
     exact ⟨(k + 1, true, true), sI, ⟨by dsimp only; omega, nx q1⟩, by dsimp only; omega⟩
    by_cases q2 : r.forall_.length = 0
    ·repeat' ((first|refine nI ?_|refine aI ?_|refine dI ?_|refine boxP rfl ?_|refine tI ?_|refine fI ?_|refine cmpI (fun _=>?_) (fun _=>?_)) <;> conv=>whnf)
     all_goals exact ⟨(k + 1, false, true), sI, ⟨by dsimp only; omega, no q1⟩, by dsimp only; omega⟩
    ·repeat' ((first|refine nI ?_|refine aI ?_|refine dI ?_|refine boxP rfl ?_|refine tI ?_|refine fI ?_|refine cmpI (fun _=>?_) (fun _=>?_)) <;> conv=>whnf)
     all_goals exact ⟨(k + 1, false, true), sI, ⟨by dsimp only; omega, no q1⟩, by dsimp only; omega⟩
 ·obtain rfl : k = p.rules.length:=by omega
  cases a with
  |false =>
   have e : decide (thrB p) = false:=decide_eq_false fun h=>by have:=h.1; have:=h.2.1; omega
   cases b with
   |false =>
    conv=>whnf
    repeat' ((first|refine nI ?_|refine aI ?_|refine tI ?_|refine fI ?_|fail);conv=>whnf)
    refine ⟨⟨true, false, false, false, ?_⟩, rfl⟩
    rw [e]
    rfl
   |true =>
    conv=>whnf
    repeat' ((first|refine nI ?_|refine aI ?_|refine tI ?_|refine fI ?_|fail);conv=>whnf)
    refine ⟨⟨false, false, false, false, ?_⟩, rfl⟩
    rw [e]
    rfl
  |true =>
   have e : decide (thrB p) = false:=decide_eq_false fun h=>by have:=h.1; have:=h.2.1; omega
   cases b with
   |false =>
    conv=>whnf
    repeat' ((first|refine nI ?_|refine aI ?_|refine tI ?_|refine fI ?_|fail);conv=>whnf)
    refine ⟨⟨true, false, false, false, ?_⟩, rfl⟩
    rw [e]
    rfl
   |true =>
    conv=>whnf
    repeat' ((first|refine nI ?_|refine aI ?_|refine tI ?_|refine fI ?_|fail);conv=>whnf)
    refine ⟨⟨false, false, false, false, ?_⟩, rfl⟩
    rw [e]
    rfl
theorem classP7 (p : Pro) (hp : okP p) (hv : validE p = 0) (h0 : p.topology = 1 ∧ ¬ p.fault = 0 ∧ ¬ p.values.length = 0) : PSpec Tryz.prog 45 [.agg (encP p)] (clsT p):=by
 have hle:=okP_le hp
 refine PSpec.intro tt_ok mx_ok Tryz.func45 rfl (by decide) ?_; (conv=>whnf)
 refine boxP rfl ?_
 conv=>whnf
 (refine oP (validateF p hp) ?_; conv=>whnf)
 refine fI ?_
 conv=>whnf
 refine WPc.loopF tt_ok mx_ok (fun z : Nat × Bool × Bool=>z.1 ≤ p.rules.length ∧ (z.2.1 = true ↔ ∀ j, j < z.1 → riseB (p.rules.getD j rul0))) (fun z=>[(5, .bool z.2.1), (6, .bool z.2.2), (20, .int .i64 (z.1 : Int))]) (fun z=>[(2, .box 96 [.bool false, .bool false, .bool false, .bool false, .bool false])]) (fun z=>p.rules.length - z.1) (0, true, false) ⟨Nat.zero_le _, fun _ j hj=>(by have : j < 0:=hj; omega), fun _=>rfl⟩ ?_; conv=>whnf
 refine ⟨sI, ?_⟩
 rintro ⟨k, a, b⟩ ⟨hk, hb⟩
 dsimp only at hk hb ⊢
 conv=>whnf
 refine cmpI ?_ ?_ <;> (intro h1; conv=>whnf)
 ·have hlt : k < p.rules.length:=by omega
  refine nI ?_
  rw [tN]
  have nx:=ris_up hb
  have no:=ris_no (p:=p) (k:=k)
  unfold riseB at nx no
  generalize p.rules.getD k rul0 = r at nx no
  cases a with
  |false =>
   cases b with
   |false =>
    conv=>whnf
    by_cases q1 : r.kind = 1 ∧ r.src < r.dst ∧ r.some_.length = 0 ∧ r.forall_.length = 0
    ·repeat' ((first|refine nI ?_|refine aI ?_|refine tI ?_|refine fI ?_|fail);conv=>whnf)
     exact ⟨(k + 1, false, false), sI, ⟨by dsimp only; omega, nx q1⟩, by dsimp only; omega⟩
    by_cases q2 : r.forall_.length = 0
    ·repeat' ((first|refine nI ?_|refine aI ?_|refine dI ?_|refine boxP rfl ?_|refine tI ?_|refine fI ?_|refine cmpI (fun _=>?_) (fun _=>?_)) <;> conv=>whnf)
     all_goals exact ⟨(k + 1, false, false), sI, ⟨by dsimp only; omega, no q1⟩, by dsimp only; omega⟩
    ·repeat' ((first|refine nI ?_|refine aI ?_|refine dI ?_|refine boxP rfl ?_|refine tI ?_|refine fI ?_|refine cmpI (fun _=>?_) (fun _=>?_)) <;> conv=>whnf)
     all_goals exact ⟨(k + 1, false, true), sI, ⟨by dsimp only; omega, no q1⟩, by dsimp only; omega⟩
   |true =>
    conv=>whnf
    by_cases q1 : r.kind = 1 ∧ r.src < r.dst ∧ r.some_.length = 0 ∧ r.forall_.length = 0
    ·repeat' ((first|refine nI ?_|refine aI ?_|refine tI ?_|refine fI ?_|fail);conv=>whnf)
     exact ⟨(k + 1, false, true), sI, ⟨by dsimp only; omega, nx q1⟩, by dsimp only; omega⟩
    by_cases q2 : r.forall_.length = 0
    ·repeat' ((first|refine nI ?_|refine aI ?_|refine dI ?_|refine boxP rfl ?_|refine tI ?_|refine fI ?_|refine cmpI (fun _=>?_) (fun _=>?_)) <;> conv=>whnf)
     all_goals exact ⟨(k + 1, false, true), sI, ⟨by dsimp only; omega, no q1⟩, by dsimp only; omega⟩
    ·repeat' ((first|refine nI ?_|refine aI ?_|refine dI ?_|refine boxP rfl ?_|refine tI ?_|refine fI ?_|refine cmpI (fun _=>?_) (fun _=>?_)) <;> conv=>whnf)
     all_goals exact ⟨(k + 1, false, true), sI, ⟨by dsimp only; omega, no q1⟩, by dsimp only; omega⟩
  |true =>
   cases b with
   |false =>
    conv=>whnf
    by_cases q1 : r.kind = 1 ∧ r.src < r.dst ∧ r.some_.length = 0 ∧ r.forall_.length = 0
    ·repeat' ((first|refine nI ?_|refine aI ?_|refine tI ?_|refine fI ?_|fail);conv=>whnf)
     exact ⟨(k + 1, true, false), sI, ⟨by dsimp only; omega, nx q1⟩, by dsimp only; omega⟩
    by_cases q2 : r.forall_.length = 0
    ·repeat' ((first|refine nI ?_|refine aI ?_|refine dI ?_|refine boxP rfl ?_|refine tI ?_|refine fI ?_|refine cmpI (fun _=>?_) (fun _=>?_)) <;> conv=>whnf)
     all_goals exact ⟨(k + 1, false, false), sI, ⟨by dsimp only; omega, no q1⟩, by dsimp only; omega⟩
    ·repeat' ((first|refine nI ?_|refine aI ?_|refine dI ?_|refine boxP rfl ?_|refine tI ?_|refine fI ?_|refine cmpI (fun _=>?_) (fun _=>?_)) <;> conv=>whnf)
     all_goals exact ⟨(k + 1, false, true), sI, ⟨by dsimp only; omega, no q1⟩, by dsimp only; omega⟩
   |true =>
    conv=>whnf
    by_cases q1 : r.kind = 1 ∧ r.src < r.dst ∧ r.some_.length = 0 ∧ r.forall_.length = 0
    ·repeat' ((first|refine nI ?_|refine aI ?_|refine tI ?_|refine fI ?_|fail);conv=>whnf)
     exact ⟨(k + 1, true, true), sI, ⟨by dsimp only; omega, nx q1⟩, by dsimp only; omega⟩
    by_cases q2 : r.forall_.length = 0
    ·repeat' ((first|refine nI ?_|refine aI ?_|refine dI ?_|refine boxP rfl ?_|refine tI ?_|refine fI ?_|refine cmpI (fun _=>?_) (fun _=>?_)) <;> conv=>whnf)
     all_goals exact ⟨(k + 1, false, true), sI, ⟨by dsimp only; omega, no q1⟩, by dsimp only; omega⟩
    ·repeat' ((first|refine nI ?_|refine aI ?_|refine dI ?_|refine boxP rfl ?_|refine tI ?_|refine fI ?_|refine cmpI (fun _=>?_) (fun _=>?_)) <;> conv=>whnf)
     all_goals exact ⟨(k + 1, false, true), sI, ⟨by dsimp only; omega, no q1⟩, by dsimp only; omega⟩
 ·obtain rfl : k = p.rules.length:=by omega
  cases a with
  |false =>
   have e : decide (thrB p) = false:=decide_eq_false fun h=>by have:=h.1; have:=h.2.1; omega
   cases b with
   |false =>
    conv=>whnf
    repeat' ((first|refine nI ?_|refine aI ?_|refine tI ?_|refine fI ?_|fail);conv=>whnf)
    refine ⟨⟨false, false, false, false, ?_⟩, rfl⟩
    rw [e]
    rfl
   |true =>
    conv=>whnf
    repeat' ((first|refine nI ?_|refine aI ?_|refine tI ?_|refine fI ?_|fail);conv=>whnf)
    refine ⟨⟨false, false, false, false, ?_⟩, rfl⟩
    rw [e]
    rfl
  |true =>
   have e : decide (thrB p) = false:=decide_eq_false fun h=>by have:=h.1; have:=h.2.1; omega
   cases b with
   |false =>
    conv=>whnf
    repeat' ((first|refine nI ?_|refine aI ?_|refine tI ?_|refine fI ?_|fail);conv=>whnf)
    refine ⟨⟨false, false, false, false, ?_⟩, rfl⟩
    rw [e]
    rfl
   |true =>
    conv=>whnf
    repeat' ((first|refine nI ?_|refine aI ?_|refine tI ?_|refine fI ?_|fail);conv=>whnf)
    refine ⟨⟨false, false, false, false, ?_⟩, rfl⟩
    rw [e]
    rfl
theorem classP8 (p : Pro) (hp : okP p) (hv : validE p = 0) (h0 : p.topology = 1 ∧ p.fault = 0 ∧ ¬ p.messages.length = 0 ∧ ¬ p.values.length = 0) : PSpec Tryz.prog 45 [.agg (encP p)] (clsT p):=by
 have hle:=okP_le hp
 refine PSpec.intro tt_ok mx_ok Tryz.func45 rfl (by decide) ?_; (conv=>whnf)
 refine boxP rfl ?_
 conv=>whnf
 (refine oP (validateF p hp) ?_; conv=>whnf)
 refine fI ?_
 conv=>whnf
 refine WPc.loopF tt_ok mx_ok (fun z : Nat × Bool × Bool=>z.1 ≤ p.rules.length ∧ (z.2.1 = true ↔ ∀ j, j < z.1 → riseB (p.rules.getD j rul0))) (fun z=>[(5, .bool z.2.1), (6, .bool z.2.2), (20, .int .i64 (z.1 : Int))]) (fun z=>[(2, .box 96 [.bool false, .bool false, .bool false, .bool false, .bool false])]) (fun z=>p.rules.length - z.1) (0, true, false) ⟨Nat.zero_le _, fun _ j hj=>(by have : j < 0:=hj; omega), fun _=>rfl⟩ ?_; conv=>whnf
 refine ⟨sI, ?_⟩
 rintro ⟨k, a, b⟩ ⟨hk, hb⟩
 dsimp only at hk hb ⊢
 conv=>whnf
 refine cmpI ?_ ?_ <;> (intro h1; conv=>whnf)
 ·have hlt : k < p.rules.length:=by omega
  refine nI ?_
  rw [tN]
  have nx:=ris_up hb
  have no:=ris_no (p:=p) (k:=k)
  unfold riseB at nx no
  generalize p.rules.getD k rul0 = r at nx no
  cases a with
  |false =>
   cases b with
   |false =>
    conv=>whnf
    by_cases q1 : r.kind = 1 ∧ r.src < r.dst ∧ r.some_.length = 0 ∧ r.forall_.length = 0
    ·repeat' ((first|refine nI ?_|refine aI ?_|refine tI ?_|refine fI ?_|fail);conv=>whnf)
     exact ⟨(k + 1, false, false), sI, ⟨by dsimp only; omega, nx q1⟩, by dsimp only; omega⟩
    by_cases q2 : r.forall_.length = 0
    ·repeat' ((first|refine nI ?_|refine aI ?_|refine dI ?_|refine boxP rfl ?_|refine tI ?_|refine fI ?_|refine cmpI (fun _=>?_) (fun _=>?_)) <;> conv=>whnf)
     all_goals exact ⟨(k + 1, false, false), sI, ⟨by dsimp only; omega, no q1⟩, by dsimp only; omega⟩
    ·repeat' ((first|refine nI ?_|refine aI ?_|refine dI ?_|refine boxP rfl ?_|refine tI ?_|refine fI ?_|refine cmpI (fun _=>?_) (fun _=>?_)) <;> conv=>whnf)
     all_goals exact ⟨(k + 1, false, true), sI, ⟨by dsimp only; omega, no q1⟩, by dsimp only; omega⟩
   |true =>
    conv=>whnf
    by_cases q1 : r.kind = 1 ∧ r.src < r.dst ∧ r.some_.length = 0 ∧ r.forall_.length = 0
    ·repeat' ((first|refine nI ?_|refine aI ?_|refine tI ?_|refine fI ?_|fail);conv=>whnf)
     exact ⟨(k + 1, false, true), sI, ⟨by dsimp only; omega, nx q1⟩, by dsimp only; omega⟩
    by_cases q2 : r.forall_.length = 0
    ·repeat' ((first|refine nI ?_|refine aI ?_|refine dI ?_|refine boxP rfl ?_|refine tI ?_|refine fI ?_|refine cmpI (fun _=>?_) (fun _=>?_)) <;> conv=>whnf)
     all_goals exact ⟨(k + 1, false, true), sI, ⟨by dsimp only; omega, no q1⟩, by dsimp only; omega⟩
    ·repeat' ((first|refine nI ?_|refine aI ?_|refine dI ?_|refine boxP rfl ?_|refine tI ?_|refine fI ?_|refine cmpI (fun _=>?_) (fun _=>?_)) <;> conv=>whnf)
     all_goals exact ⟨(k + 1, false, true), sI, ⟨by dsimp only; omega, no q1⟩, by dsimp only; omega⟩
  |true =>
   cases b with
   |false =>
    conv=>whnf
    by_cases q1 : r.kind = 1 ∧ r.src < r.dst ∧ r.some_.length = 0 ∧ r.forall_.length = 0
    ·repeat' ((first|refine nI ?_|refine aI ?_|refine tI ?_|refine fI ?_|fail);conv=>whnf)
     exact ⟨(k + 1, true, false), sI, ⟨by dsimp only; omega, nx q1⟩, by dsimp only; omega⟩
    by_cases q2 : r.forall_.length = 0
    ·repeat' ((first|refine nI ?_|refine aI ?_|refine dI ?_|refine boxP rfl ?_|refine tI ?_|refine fI ?_|refine cmpI (fun _=>?_) (fun _=>?_)) <;> conv=>whnf)
     all_goals exact ⟨(k + 1, false, false), sI, ⟨by dsimp only; omega, no q1⟩, by dsimp only; omega⟩
    ·repeat' ((first|refine nI ?_|refine aI ?_|refine dI ?_|refine boxP rfl ?_|refine tI ?_|refine fI ?_|refine cmpI (fun _=>?_) (fun _=>?_)) <;> conv=>whnf)
     all_goals exact ⟨(k + 1, false, true), sI, ⟨by dsimp only; omega, no q1⟩, by dsimp only; omega⟩
   |true =>
    conv=>whnf
    by_cases q1 : r.kind = 1 ∧ r.src < r.dst ∧ r.some_.length = 0 ∧ r.forall_.length = 0
    ·repeat' ((first|refine nI ?_|refine aI ?_|refine tI ?_|refine fI ?_|fail);conv=>whnf)
     exact ⟨(k + 1, true, true), sI, ⟨by dsimp only; omega, nx q1⟩, by dsimp only; omega⟩
    by_cases q2 : r.forall_.length = 0
    ·repeat' ((first|refine nI ?_|refine aI ?_|refine dI ?_|refine boxP rfl ?_|refine tI ?_|refine fI ?_|refine cmpI (fun _=>?_) (fun _=>?_)) <;> conv=>whnf)
     all_goals exact ⟨(k + 1, false, true), sI, ⟨by dsimp only; omega, no q1⟩, by dsimp only; omega⟩
    ·repeat' ((first|refine nI ?_|refine aI ?_|refine dI ?_|refine boxP rfl ?_|refine tI ?_|refine fI ?_|refine cmpI (fun _=>?_) (fun _=>?_)) <;> conv=>whnf)
     all_goals exact ⟨(k + 1, false, true), sI, ⟨by dsimp only; omega, no q1⟩, by dsimp only; omega⟩
 ·obtain rfl : k = p.rules.length:=by omega
  cases a with
  |false =>
   have e : decide (thrB p) = false:=decide_eq_false fun h=>by have:=h.1; have:=h.2.1; omega
   cases b with
   |false =>
    conv=>whnf
    repeat' ((first|refine nI ?_|refine aI ?_|refine tI ?_|refine fI ?_|fail);conv=>whnf)
    refine ⟨⟨false, false, false, false, ?_⟩, rfl⟩
    rw [e]
    rfl
   |true =>
    conv=>whnf
    repeat' ((first|refine nI ?_|refine aI ?_|refine tI ?_|refine fI ?_|fail);conv=>whnf)
    refine ⟨⟨false, false, false, false, ?_⟩, rfl⟩
    rw [e]
    rfl
  |true =>
   have e : decide (thrB p) = false:=decide_eq_false fun h=>by have:=h.1; have:=h.2.1; omega
   cases b with
   |false =>
    conv=>whnf
    repeat' ((first|refine nI ?_|refine aI ?_|refine tI ?_|refine fI ?_|fail);conv=>whnf)
    refine ⟨⟨false, false, false, false, ?_⟩, rfl⟩
    rw [e]
    rfl
   |true =>
    conv=>whnf
    repeat' ((first|refine nI ?_|refine aI ?_|refine tI ?_|refine fI ?_|fail);conv=>whnf)
    refine ⟨⟨false, false, false, false, ?_⟩, rfl⟩
    rw [e]
    rfl
theorem classP9 (p : Pro) (hp : okP p) (hv : validE p = 0) (h0 : p.topology = 1 ∧ p.fault = 0 ∧ p.messages.length = 0 ∧ ¬ p.resilience.length = 0 ∧ ¬ p.values.length = 0) : PSpec Tryz.prog 45 [.agg (encP p)] (clsT p):=by
 have hle:=okP_le hp
 refine PSpec.intro tt_ok mx_ok Tryz.func45 rfl (by decide) ?_; (conv=>whnf)
 refine boxP rfl ?_
 conv=>whnf
 (refine oP (validateF p hp) ?_; conv=>whnf)
 refine fI ?_
 conv=>whnf
 refine WPc.loopF tt_ok mx_ok (fun z : Nat × Bool × Bool=>z.1 ≤ p.rules.length ∧ (z.2.1 = true ↔ ∀ j, j < z.1 → riseB (p.rules.getD j rul0))) (fun z=>[(5, .bool z.2.1), (6, .bool z.2.2), (20, .int .i64 (z.1 : Int))]) (fun z=>[(2, .box 96 [.bool false, .bool false, .bool false, .bool false, .bool false])]) (fun z=>p.rules.length - z.1) (0, true, false) ⟨Nat.zero_le _, fun _ j hj=>(by have : j < 0:=hj; omega), fun _=>rfl⟩ ?_; conv=>whnf
 refine ⟨sI, ?_⟩
 rintro ⟨k, a, b⟩ ⟨hk, hb⟩
 dsimp only at hk hb ⊢
 conv=>whnf
 refine cmpI ?_ ?_ <;> (intro h1; conv=>whnf)
 ·have hlt : k < p.rules.length:=by omega
  refine nI ?_
  rw [tN]
  have nx:=ris_up hb
  have no:=ris_no (p:=p) (k:=k)
  unfold riseB at nx no
  generalize p.rules.getD k rul0 = r at nx no
  cases a with
  |false =>
   cases b with
   |false =>
    conv=>whnf
    by_cases q1 : r.kind = 1 ∧ r.src < r.dst ∧ r.some_.length = 0 ∧ r.forall_.length = 0
    ·repeat' ((first|refine nI ?_|refine aI ?_|refine tI ?_|refine fI ?_|fail);conv=>whnf)
     exact ⟨(k + 1, false, false), sI, ⟨by dsimp only; omega, nx q1⟩, by dsimp only; omega⟩
    by_cases q2 : r.forall_.length = 0
    ·repeat' ((first|refine nI ?_|refine aI ?_|refine dI ?_|refine boxP rfl ?_|refine tI ?_|refine fI ?_|refine cmpI (fun _=>?_) (fun _=>?_)) <;> conv=>whnf)
     all_goals exact ⟨(k + 1, false, false), sI, ⟨by dsimp only; omega, no q1⟩, by dsimp only; omega⟩
    ·repeat' ((first|refine nI ?_|refine aI ?_|refine dI ?_|refine boxP rfl ?_|refine tI ?_|refine fI ?_|refine cmpI (fun _=>?_) (fun _=>?_)) <;> conv=>whnf)
     all_goals exact ⟨(k + 1, false, true), sI, ⟨by dsimp only; omega, no q1⟩, by dsimp only; omega⟩
   |true =>
    conv=>whnf
    by_cases q1 : r.kind = 1 ∧ r.src < r.dst ∧ r.some_.length = 0 ∧ r.forall_.length = 0
    ·repeat' ((first|refine nI ?_|refine aI ?_|refine tI ?_|refine fI ?_|fail);conv=>whnf)
     exact ⟨(k + 1, false, true), sI, ⟨by dsimp only; omega, nx q1⟩, by dsimp only; omega⟩
    by_cases q2 : r.forall_.length = 0
    ·repeat' ((first|refine nI ?_|refine aI ?_|refine dI ?_|refine boxP rfl ?_|refine tI ?_|refine fI ?_|refine cmpI (fun _=>?_) (fun _=>?_)) <;> conv=>whnf)
     all_goals exact ⟨(k + 1, false, true), sI, ⟨by dsimp only; omega, no q1⟩, by dsimp only; omega⟩
    ·repeat' ((first|refine nI ?_|refine aI ?_|refine dI ?_|refine boxP rfl ?_|refine tI ?_|refine fI ?_|refine cmpI (fun _=>?_) (fun _=>?_)) <;> conv=>whnf)
     all_goals exact ⟨(k + 1, false, true), sI, ⟨by dsimp only; omega, no q1⟩, by dsimp only; omega⟩
  |true =>
   cases b with
   |false =>
    conv=>whnf
    by_cases q1 : r.kind = 1 ∧ r.src < r.dst ∧ r.some_.length = 0 ∧ r.forall_.length = 0
    ·repeat' ((first|refine nI ?_|refine aI ?_|refine tI ?_|refine fI ?_|fail);conv=>whnf)
     exact ⟨(k + 1, true, false), sI, ⟨by dsimp only; omega, nx q1⟩, by dsimp only; omega⟩
    by_cases q2 : r.forall_.length = 0
    ·repeat' ((first|refine nI ?_|refine aI ?_|refine dI ?_|refine boxP rfl ?_|refine tI ?_|refine fI ?_|refine cmpI (fun _=>?_) (fun _=>?_)) <;> conv=>whnf)
     all_goals exact ⟨(k + 1, false, false), sI, ⟨by dsimp only; omega, no q1⟩, by dsimp only; omega⟩
    ·repeat' ((first|refine nI ?_|refine aI ?_|refine dI ?_|refine boxP rfl ?_|refine tI ?_|refine fI ?_|refine cmpI (fun _=>?_) (fun _=>?_)) <;> conv=>whnf)
     all_goals exact ⟨(k + 1, false, true), sI, ⟨by dsimp only; omega, no q1⟩, by dsimp only; omega⟩
   |true =>
    conv=>whnf
    by_cases q1 : r.kind = 1 ∧ r.src < r.dst ∧ r.some_.length = 0 ∧ r.forall_.length = 0
    ·repeat' ((first|refine nI ?_|refine aI ?_|refine tI ?_|refine fI ?_|fail);conv=>whnf)
     exact ⟨(k + 1, true, true), sI, ⟨by dsimp only; omega, nx q1⟩, by dsimp only; omega⟩
    by_cases q2 : r.forall_.length = 0
    ·repeat' ((first|refine nI ?_|refine aI ?_|refine dI ?_|refine boxP rfl ?_|refine tI ?_|refine fI ?_|refine cmpI (fun _=>?_) (fun _=>?_)) <;> conv=>whnf)
     all_goals exact ⟨(k + 1, false, true), sI, ⟨by dsimp only; omega, no q1⟩, by dsimp only; omega⟩
    ·repeat' ((first|refine nI ?_|refine aI ?_|refine dI ?_|refine boxP rfl ?_|refine tI ?_|refine fI ?_|refine cmpI (fun _=>?_) (fun _=>?_)) <;> conv=>whnf)
     all_goals exact ⟨(k + 1, false, true), sI, ⟨by dsimp only; omega, no q1⟩, by dsimp only; omega⟩
 ·obtain rfl : k = p.rules.length:=by omega
  cases a with
  |false =>
   have e : decide (thrB p) = false:=decide_eq_false fun h=>by have:=h.1; have:=h.2.1; omega
   cases b with
   |false =>
    conv=>whnf
    repeat' ((first|refine nI ?_|refine aI ?_|refine tI ?_|refine fI ?_|fail);conv=>whnf)
    refine ⟨⟨false, false, false, false, ?_⟩, rfl⟩
    rw [e]
    rfl
   |true =>
    conv=>whnf
    repeat' ((first|refine nI ?_|refine aI ?_|refine tI ?_|refine fI ?_|fail);conv=>whnf)
    refine ⟨⟨false, false, false, false, ?_⟩, rfl⟩
    rw [e]
    rfl
  |true =>
   have e : decide (thrB p) = false:=decide_eq_false fun h=>by have:=h.1; have:=h.2.1; omega
   cases b with
   |false =>
    conv=>whnf
    repeat' ((first|refine nI ?_|refine aI ?_|refine tI ?_|refine fI ?_|fail);conv=>whnf)
    refine ⟨⟨false, false, false, false, ?_⟩, rfl⟩
    rw [e]
    rfl
   |true =>
    conv=>whnf
    repeat' ((first|refine nI ?_|refine aI ?_|refine tI ?_|refine fI ?_|fail);conv=>whnf)
    refine ⟨⟨false, false, false, false, ?_⟩, rfl⟩
    rw [e]
    rfl
theorem classP10 (p : Pro) (hp : okP p) (hv : validE p = 0) (h0 : p.topology = 2) : PSpec Tryz.prog 45 [.agg (encP p)] (clsT p):=by
 have hle:=okP_le hp
 refine PSpec.intro tt_ok mx_ok Tryz.func45 rfl (by decide) ?_; (conv=>whnf)
 refine boxP rfl ?_
 conv=>whnf
 (refine oP (validateF p hp) ?_; conv=>whnf)
 refine fI ?_
 conv=>whnf
 refine WPc.loopF tt_ok mx_ok (fun z : Nat × Bool × Bool=>z.1 ≤ p.rules.length ∧ (z.2.1 = true ↔ ∀ j, j < z.1 → riseB (p.rules.getD j rul0))) (fun z=>[(5, .bool z.2.1), (6, .bool z.2.2), (20, .int .i64 (z.1 : Int))]) (fun z=>[(2, .box 96 [.bool false, .bool false, .bool false, .bool false, .bool false])]) (fun z=>p.rules.length - z.1) (0, true, false) ⟨Nat.zero_le _, fun _ j hj=>(by have : j < 0:=hj; omega), fun _=>rfl⟩ ?_; conv=>whnf
 refine ⟨sI, ?_⟩
 rintro ⟨k, a, b⟩ ⟨hk, hb⟩
 dsimp only at hk hb ⊢
 conv=>whnf
 refine cmpI ?_ ?_ <;> (intro h1; conv=>whnf)
 ·have hlt : k < p.rules.length:=by omega
  refine nI ?_
  rw [tN]
  have nx:=ris_up hb
  have no:=ris_no (p:=p) (k:=k)
  unfold riseB at nx no
  generalize p.rules.getD k rul0 = r at nx no
  cases a with
  |false =>
   cases b with
   |false =>
    conv=>whnf
    by_cases q1 : r.kind = 1 ∧ r.src < r.dst ∧ r.some_.length = 0 ∧ r.forall_.length = 0
    ·repeat' ((first|refine nI ?_|refine aI ?_|refine tI ?_|refine fI ?_|fail);conv=>whnf)
     exact ⟨(k + 1, false, false), sI, ⟨by dsimp only; omega, nx q1⟩, by dsimp only; omega⟩
    by_cases q2 : r.forall_.length = 0
    ·repeat' ((first|refine nI ?_|refine aI ?_|refine dI ?_|refine boxP rfl ?_|refine tI ?_|refine fI ?_|refine cmpI (fun _=>?_) (fun _=>?_)) <;> conv=>whnf)
     all_goals exact ⟨(k + 1, false, false), sI, ⟨by dsimp only; omega, no q1⟩, by dsimp only; omega⟩
    ·repeat' ((first|refine nI ?_|refine aI ?_|refine dI ?_|refine boxP rfl ?_|refine tI ?_|refine fI ?_|refine cmpI (fun _=>?_) (fun _=>?_)) <;> conv=>whnf)
     all_goals exact ⟨(k + 1, false, true), sI, ⟨by dsimp only; omega, no q1⟩, by dsimp only; omega⟩
   |true =>
    conv=>whnf
    by_cases q1 : r.kind = 1 ∧ r.src < r.dst ∧ r.some_.length = 0 ∧ r.forall_.length = 0
    ·repeat' ((first|refine nI ?_|refine aI ?_|refine tI ?_|refine fI ?_|fail);conv=>whnf)
     exact ⟨(k + 1, false, true), sI, ⟨by dsimp only; omega, nx q1⟩, by dsimp only; omega⟩
    by_cases q2 : r.forall_.length = 0
    ·repeat' ((first|refine nI ?_|refine aI ?_|refine dI ?_|refine boxP rfl ?_|refine tI ?_|refine fI ?_|refine cmpI (fun _=>?_) (fun _=>?_)) <;> conv=>whnf)
     all_goals exact ⟨(k + 1, false, true), sI, ⟨by dsimp only; omega, no q1⟩, by dsimp only; omega⟩
    ·repeat' ((first|refine nI ?_|refine aI ?_|refine dI ?_|refine boxP rfl ?_|refine tI ?_|refine fI ?_|refine cmpI (fun _=>?_) (fun _=>?_)) <;> conv=>whnf)
     all_goals exact ⟨(k + 1, false, true), sI, ⟨by dsimp only; omega, no q1⟩, by dsimp only; omega⟩
  |true =>
   cases b with
   |false =>
    conv=>whnf
    by_cases q1 : r.kind = 1 ∧ r.src < r.dst ∧ r.some_.length = 0 ∧ r.forall_.length = 0
    ·repeat' ((first|refine nI ?_|refine aI ?_|refine tI ?_|refine fI ?_|fail);conv=>whnf)
     exact ⟨(k + 1, true, false), sI, ⟨by dsimp only; omega, nx q1⟩, by dsimp only; omega⟩
    by_cases q2 : r.forall_.length = 0
    ·repeat' ((first|refine nI ?_|refine aI ?_|refine dI ?_|refine boxP rfl ?_|refine tI ?_|refine fI ?_|refine cmpI (fun _=>?_) (fun _=>?_)) <;> conv=>whnf)
     all_goals exact ⟨(k + 1, false, false), sI, ⟨by dsimp only; omega, no q1⟩, by dsimp only; omega⟩
    ·repeat' ((first|refine nI ?_|refine aI ?_|refine dI ?_|refine boxP rfl ?_|refine tI ?_|refine fI ?_|refine cmpI (fun _=>?_) (fun _=>?_)) <;> conv=>whnf)
     all_goals exact ⟨(k + 1, false, true), sI, ⟨by dsimp only; omega, no q1⟩, by dsimp only; omega⟩
   |true =>
    conv=>whnf
    by_cases q1 : r.kind = 1 ∧ r.src < r.dst ∧ r.some_.length = 0 ∧ r.forall_.length = 0
    ·repeat' ((first|refine nI ?_|refine aI ?_|refine tI ?_|refine fI ?_|fail);conv=>whnf)
     exact ⟨(k + 1, true, true), sI, ⟨by dsimp only; omega, nx q1⟩, by dsimp only; omega⟩
    by_cases q2 : r.forall_.length = 0
    ·repeat' ((first|refine nI ?_|refine aI ?_|refine dI ?_|refine boxP rfl ?_|refine tI ?_|refine fI ?_|refine cmpI (fun _=>?_) (fun _=>?_)) <;> conv=>whnf)
     all_goals exact ⟨(k + 1, false, true), sI, ⟨by dsimp only; omega, no q1⟩, by dsimp only; omega⟩
    ·repeat' ((first|refine nI ?_|refine aI ?_|refine dI ?_|refine boxP rfl ?_|refine tI ?_|refine fI ?_|refine cmpI (fun _=>?_) (fun _=>?_)) <;> conv=>whnf)
     all_goals exact ⟨(k + 1, false, true), sI, ⟨by dsimp only; omega, no q1⟩, by dsimp only; omega⟩
 ·obtain rfl : k = p.rules.length:=by omega
  cases a with
  |false =>
   have e : decide (thrB p) = false:=decide_eq_false fun h=>by have:=h.1; have:=h.2.1; omega
   cases b with
   |false =>
    conv=>whnf
    repeat' ((first|refine nI ?_|refine aI ?_|refine tI ?_|refine fI ?_|fail);conv=>whnf)
    refine ⟨⟨false, true, false, false, ?_⟩, rfl⟩
    rw [e]
    rfl
   |true =>
    conv=>whnf
    repeat' ((first|refine nI ?_|refine aI ?_|refine tI ?_|refine fI ?_|fail);conv=>whnf)
    refine ⟨⟨false, true, false, false, ?_⟩, rfl⟩
    rw [e]
    rfl
  |true =>
   have e : decide (thrB p) = false:=decide_eq_false fun h=>by have:=h.1; have:=h.2.1; omega
   cases b with
   |false =>
    conv=>whnf
    repeat' ((first|refine nI ?_|refine aI ?_|refine tI ?_|refine fI ?_|fail);conv=>whnf)
    refine ⟨⟨false, true, false, false, ?_⟩, rfl⟩
    rw [e]
    rfl
   |true =>
    conv=>whnf
    repeat' ((first|refine nI ?_|refine aI ?_|refine tI ?_|refine fI ?_|fail);conv=>whnf)
    refine ⟨⟨false, true, false, false, ?_⟩, rfl⟩
    rw [e]
    rfl
theorem classP11 (p : Pro) (hp : okP p) (hv : validE p = 0) (h0 : p.topology = 3) : PSpec Tryz.prog 45 [.agg (encP p)] (clsT p):=by
 have hle:=okP_le hp
 refine PSpec.intro tt_ok mx_ok Tryz.func45 rfl (by decide) ?_; (conv=>whnf)
 refine boxP rfl ?_
 conv=>whnf
 (refine oP (validateF p hp) ?_; conv=>whnf)
 refine fI ?_
 conv=>whnf
 refine WPc.loopF tt_ok mx_ok (fun z : Nat × Bool × Bool=>z.1 ≤ p.rules.length ∧ (z.2.1 = true ↔ ∀ j, j < z.1 → riseB (p.rules.getD j rul0))) (fun z=>[(5, .bool z.2.1), (6, .bool z.2.2), (20, .int .i64 (z.1 : Int))]) (fun z=>[(2, .box 96 [.bool false, .bool false, .bool false, .bool false, .bool false])]) (fun z=>p.rules.length - z.1) (0, true, false) ⟨Nat.zero_le _, fun _ j hj=>(by have : j < 0:=hj; omega), fun _=>rfl⟩ ?_; conv=>whnf
 refine ⟨sI, ?_⟩
 rintro ⟨k, a, b⟩ ⟨hk, hb⟩
 dsimp only at hk hb ⊢
 conv=>whnf
 refine cmpI ?_ ?_ <;> (intro h1; conv=>whnf)
 ·have hlt : k < p.rules.length:=by omega
  refine nI ?_
  rw [tN]
  have nx:=ris_up hb
  have no:=ris_no (p:=p) (k:=k)
  unfold riseB at nx no
  generalize p.rules.getD k rul0 = r at nx no
  cases a with
  |false =>
   cases b with
   |false =>
    conv=>whnf
    by_cases q1 : r.kind = 1 ∧ r.src < r.dst ∧ r.some_.length = 0 ∧ r.forall_.length = 0
    ·repeat' ((first|refine nI ?_|refine aI ?_|refine tI ?_|refine fI ?_|fail);conv=>whnf)
     exact ⟨(k + 1, false, false), sI, ⟨by dsimp only; omega, nx q1⟩, by dsimp only; omega⟩
    by_cases q2 : r.forall_.length = 0
    ·repeat' ((first|refine nI ?_|refine aI ?_|refine dI ?_|refine boxP rfl ?_|refine tI ?_|refine fI ?_|refine cmpI (fun _=>?_) (fun _=>?_)) <;> conv=>whnf)
     all_goals exact ⟨(k + 1, false, false), sI, ⟨by dsimp only; omega, no q1⟩, by dsimp only; omega⟩
    ·repeat' ((first|refine nI ?_|refine aI ?_|refine dI ?_|refine boxP rfl ?_|refine tI ?_|refine fI ?_|refine cmpI (fun _=>?_) (fun _=>?_)) <;> conv=>whnf)
     all_goals exact ⟨(k + 1, false, true), sI, ⟨by dsimp only; omega, no q1⟩, by dsimp only; omega⟩
   |true =>
    conv=>whnf
    by_cases q1 : r.kind = 1 ∧ r.src < r.dst ∧ r.some_.length = 0 ∧ r.forall_.length = 0
    ·repeat' ((first|refine nI ?_|refine aI ?_|refine tI ?_|refine fI ?_|fail);conv=>whnf)
     exact ⟨(k + 1, false, true), sI, ⟨by dsimp only; omega, nx q1⟩, by dsimp only; omega⟩
    by_cases q2 : r.forall_.length = 0
    ·repeat' ((first|refine nI ?_|refine aI ?_|refine dI ?_|refine boxP rfl ?_|refine tI ?_|refine fI ?_|refine cmpI (fun _=>?_) (fun _=>?_)) <;> conv=>whnf)
     all_goals exact ⟨(k + 1, false, true), sI, ⟨by dsimp only; omega, no q1⟩, by dsimp only; omega⟩
    ·repeat' ((first|refine nI ?_|refine aI ?_|refine dI ?_|refine boxP rfl ?_|refine tI ?_|refine fI ?_|refine cmpI (fun _=>?_) (fun _=>?_)) <;> conv=>whnf)
     all_goals exact ⟨(k + 1, false, true), sI, ⟨by dsimp only; omega, no q1⟩, by dsimp only; omega⟩
  |true =>
   cases b with
   |false =>
    conv=>whnf
    by_cases q1 : r.kind = 1 ∧ r.src < r.dst ∧ r.some_.length = 0 ∧ r.forall_.length = 0
    ·repeat' ((first|refine nI ?_|refine aI ?_|refine tI ?_|refine fI ?_|fail);conv=>whnf)
     exact ⟨(k + 1, true, false), sI, ⟨by dsimp only; omega, nx q1⟩, by dsimp only; omega⟩
    by_cases q2 : r.forall_.length = 0
    ·repeat' ((first|refine nI ?_|refine aI ?_|refine dI ?_|refine boxP rfl ?_|refine tI ?_|refine fI ?_|refine cmpI (fun _=>?_) (fun _=>?_)) <;> conv=>whnf)
     all_goals exact ⟨(k + 1, false, false), sI, ⟨by dsimp only; omega, no q1⟩, by dsimp only; omega⟩
    ·repeat' ((first|refine nI ?_|refine aI ?_|refine dI ?_|refine boxP rfl ?_|refine tI ?_|refine fI ?_|refine cmpI (fun _=>?_) (fun _=>?_)) <;> conv=>whnf)
     all_goals exact ⟨(k + 1, false, true), sI, ⟨by dsimp only; omega, no q1⟩, by dsimp only; omega⟩
   |true =>
    conv=>whnf
    by_cases q1 : r.kind = 1 ∧ r.src < r.dst ∧ r.some_.length = 0 ∧ r.forall_.length = 0
    ·repeat' ((first|refine nI ?_|refine aI ?_|refine tI ?_|refine fI ?_|fail);conv=>whnf)
     exact ⟨(k + 1, true, true), sI, ⟨by dsimp only; omega, nx q1⟩, by dsimp only; omega⟩
    by_cases q2 : r.forall_.length = 0
    ·repeat' ((first|refine nI ?_|refine aI ?_|refine dI ?_|refine boxP rfl ?_|refine tI ?_|refine fI ?_|refine cmpI (fun _=>?_) (fun _=>?_)) <;> conv=>whnf)
     all_goals exact ⟨(k + 1, false, true), sI, ⟨by dsimp only; omega, no q1⟩, by dsimp only; omega⟩
    ·repeat' ((first|refine nI ?_|refine aI ?_|refine dI ?_|refine boxP rfl ?_|refine tI ?_|refine fI ?_|refine cmpI (fun _=>?_) (fun _=>?_)) <;> conv=>whnf)
     all_goals exact ⟨(k + 1, false, true), sI, ⟨by dsimp only; omega, no q1⟩, by dsimp only; omega⟩
 ·obtain rfl : k = p.rules.length:=by omega
  cases a with
  |false =>
   have e : decide (thrB p) = false:=decide_eq_false fun h=>by have:=h.1; have:=h.2.1; omega
   cases b with
   |false =>
    conv=>whnf
    repeat' ((first|refine nI ?_|refine aI ?_|refine tI ?_|refine fI ?_|fail);conv=>whnf)
    refine ⟨⟨false, true, false, false, ?_⟩, rfl⟩
    rw [e]
    rfl
   |true =>
    conv=>whnf
    repeat' ((first|refine nI ?_|refine aI ?_|refine tI ?_|refine fI ?_|fail);conv=>whnf)
    refine ⟨⟨false, true, false, false, ?_⟩, rfl⟩
    rw [e]
    rfl
  |true =>
   have e : decide (thrB p) = false:=decide_eq_false fun h=>by have:=h.1; have:=h.2.1; omega
   cases b with
   |false =>
    conv=>whnf
    repeat' ((first|refine nI ?_|refine aI ?_|refine tI ?_|refine fI ?_|fail);conv=>whnf)
    refine ⟨⟨false, true, false, false, ?_⟩, rfl⟩
    rw [e]
    rfl
   |true =>
    conv=>whnf
    repeat' ((first|refine nI ?_|refine aI ?_|refine tI ?_|refine fI ?_|fail);conv=>whnf)
    refine ⟨⟨false, true, false, false, ?_⟩, rfl⟩
    rw [e]
    rfl
theorem classP12 (p : Pro) (hp : okP p) (hv : validE p = 0) (h0 : p.topology = 4) : PSpec Tryz.prog 45 [.agg (encP p)] (clsT p):=by
 have hle:=okP_le hp
 refine PSpec.intro tt_ok mx_ok Tryz.func45 rfl (by decide) ?_; (conv=>whnf)
 refine boxP rfl ?_
 conv=>whnf
 (refine oP (validateF p hp) ?_; conv=>whnf)
 refine fI ?_
 conv=>whnf
 refine WPc.loopF tt_ok mx_ok (fun z : Nat × Bool × Bool=>z.1 ≤ p.rules.length ∧ (z.2.1 = true ↔ ∀ j, j < z.1 → riseB (p.rules.getD j rul0))) (fun z=>[(5, .bool z.2.1), (6, .bool z.2.2), (20, .int .i64 (z.1 : Int))]) (fun z=>[(2, .box 96 [.bool false, .bool false, .bool false, .bool false, .bool false])]) (fun z=>p.rules.length - z.1) (0, true, false) ⟨Nat.zero_le _, fun _ j hj=>(by have : j < 0:=hj; omega), fun _=>rfl⟩ ?_; conv=>whnf
 refine ⟨sI, ?_⟩
 rintro ⟨k, a, b⟩ ⟨hk, hb⟩
 dsimp only at hk hb ⊢
 conv=>whnf
 refine cmpI ?_ ?_ <;> (intro h1; conv=>whnf)
 ·have hlt : k < p.rules.length:=by omega
  refine nI ?_
  rw [tN]
  have nx:=ris_up hb
  have no:=ris_no (p:=p) (k:=k)
  unfold riseB at nx no
  generalize p.rules.getD k rul0 = r at nx no
  cases a with
  |false =>
   cases b with
   |false =>
    conv=>whnf
    by_cases q1 : r.kind = 1 ∧ r.src < r.dst ∧ r.some_.length = 0 ∧ r.forall_.length = 0
    ·repeat' ((first|refine nI ?_|refine aI ?_|refine tI ?_|refine fI ?_|fail);conv=>whnf)
     exact ⟨(k + 1, false, false), sI, ⟨by dsimp only; omega, nx q1⟩, by dsimp only; omega⟩
    by_cases q2 : r.forall_.length = 0
    ·repeat' ((first|refine nI ?_|refine aI ?_|refine dI ?_|refine boxP rfl ?_|refine tI ?_|refine fI ?_|refine cmpI (fun _=>?_) (fun _=>?_)) <;> conv=>whnf)
     all_goals exact ⟨(k + 1, false, false), sI, ⟨by dsimp only; omega, no q1⟩, by dsimp only; omega⟩
    ·repeat' ((first|refine nI ?_|refine aI ?_|refine dI ?_|refine boxP rfl ?_|refine tI ?_|refine fI ?_|refine cmpI (fun _=>?_) (fun _=>?_)) <;> conv=>whnf)
     all_goals exact ⟨(k + 1, false, true), sI, ⟨by dsimp only; omega, no q1⟩, by dsimp only; omega⟩
   |true =>
    conv=>whnf
    by_cases q1 : r.kind = 1 ∧ r.src < r.dst ∧ r.some_.length = 0 ∧ r.forall_.length = 0
    ·repeat' ((first|refine nI ?_|refine aI ?_|refine tI ?_|refine fI ?_|fail);conv=>whnf)
     exact ⟨(k + 1, false, true), sI, ⟨by dsimp only; omega, nx q1⟩, by dsimp only; omega⟩
    by_cases q2 : r.forall_.length = 0
    ·repeat' ((first|refine nI ?_|refine aI ?_|refine dI ?_|refine boxP rfl ?_|refine tI ?_|refine fI ?_|refine cmpI (fun _=>?_) (fun _=>?_)) <;> conv=>whnf)
     all_goals exact ⟨(k + 1, false, true), sI, ⟨by dsimp only; omega, no q1⟩, by dsimp only; omega⟩
    ·repeat' ((first|refine nI ?_|refine aI ?_|refine dI ?_|refine boxP rfl ?_|refine tI ?_|refine fI ?_|refine cmpI (fun _=>?_) (fun _=>?_)) <;> conv=>whnf)
     all_goals exact ⟨(k + 1, false, true), sI, ⟨by dsimp only; omega, no q1⟩, by dsimp only; omega⟩
  |true =>
   cases b with
   |false =>
    conv=>whnf
    by_cases q1 : r.kind = 1 ∧ r.src < r.dst ∧ r.some_.length = 0 ∧ r.forall_.length = 0
    ·repeat' ((first|refine nI ?_|refine aI ?_|refine tI ?_|refine fI ?_|fail);conv=>whnf)
     exact ⟨(k + 1, true, false), sI, ⟨by dsimp only; omega, nx q1⟩, by dsimp only; omega⟩
    by_cases q2 : r.forall_.length = 0
    ·repeat' ((first|refine nI ?_|refine aI ?_|refine dI ?_|refine boxP rfl ?_|refine tI ?_|refine fI ?_|refine cmpI (fun _=>?_) (fun _=>?_)) <;> conv=>whnf)
     all_goals exact ⟨(k + 1, false, false), sI, ⟨by dsimp only; omega, no q1⟩, by dsimp only; omega⟩
    ·repeat' ((first|refine nI ?_|refine aI ?_|refine dI ?_|refine boxP rfl ?_|refine tI ?_|refine fI ?_|refine cmpI (fun _=>?_) (fun _=>?_)) <;> conv=>whnf)
     all_goals exact ⟨(k + 1, false, true), sI, ⟨by dsimp only; omega, no q1⟩, by dsimp only; omega⟩
   |true =>
    conv=>whnf
    by_cases q1 : r.kind = 1 ∧ r.src < r.dst ∧ r.some_.length = 0 ∧ r.forall_.length = 0
    ·repeat' ((first|refine nI ?_|refine aI ?_|refine tI ?_|refine fI ?_|fail);conv=>whnf)
     exact ⟨(k + 1, true, true), sI, ⟨by dsimp only; omega, nx q1⟩, by dsimp only; omega⟩
    by_cases q2 : r.forall_.length = 0
    ·repeat' ((first|refine nI ?_|refine aI ?_|refine dI ?_|refine boxP rfl ?_|refine tI ?_|refine fI ?_|refine cmpI (fun _=>?_) (fun _=>?_)) <;> conv=>whnf)
     all_goals exact ⟨(k + 1, false, true), sI, ⟨by dsimp only; omega, no q1⟩, by dsimp only; omega⟩
    ·repeat' ((first|refine nI ?_|refine aI ?_|refine dI ?_|refine boxP rfl ?_|refine tI ?_|refine fI ?_|refine cmpI (fun _=>?_) (fun _=>?_)) <;> conv=>whnf)
     all_goals exact ⟨(k + 1, false, true), sI, ⟨by dsimp only; omega, no q1⟩, by dsimp only; omega⟩
 ·obtain rfl : k = p.rules.length:=by omega
  cases a with
  |false =>
   have e : decide (thrB p) = false:=decide_eq_false fun h=>by have:=h.1; have:=h.2.1; omega
   cases b with
   |false =>
    conv=>whnf
    repeat' ((first|refine nI ?_|refine aI ?_|refine tI ?_|refine fI ?_|fail);conv=>whnf)
    refine ⟨⟨false, false, true, false, ?_⟩, rfl⟩
    rw [e]
    rfl
   |true =>
    conv=>whnf
    repeat' ((first|refine nI ?_|refine aI ?_|refine tI ?_|refine fI ?_|fail);conv=>whnf)
    refine ⟨⟨false, false, true, false, ?_⟩, rfl⟩
    rw [e]
    rfl
  |true =>
   have e : decide (thrB p) = false:=decide_eq_false fun h=>by have:=h.1; have:=h.2.1; omega
   cases b with
   |false =>
    conv=>whnf
    repeat' ((first|refine nI ?_|refine aI ?_|refine tI ?_|refine fI ?_|fail);conv=>whnf)
    refine ⟨⟨false, false, true, false, ?_⟩, rfl⟩
    rw [e]
    rfl
   |true =>
    conv=>whnf
    repeat' ((first|refine nI ?_|refine aI ?_|refine tI ?_|refine fI ?_|fail);conv=>whnf)
    refine ⟨⟨false, false, true, false, ?_⟩, rfl⟩
    rw [e]
    rfl
theorem classP (p : Pro) (hp : okP p) (hv : validE p = 0) : PSpec Tryz.prog 45 [.agg (encP p)] (clsT p):=by
 have ht:=(vld_of hv).top
 by_cases h0 : p.topology = 1 ∧ p.fault = 0 ∧ p.messages.length = 0 ∧ p.resilience.length = 0 ∧ p.values.length = 0 ∧ p.states.length ≤ 4
 ·exact classP0 p hp hv h0
 by_cases h1 : p.topology = 1 ∧ p.fault = 0 ∧ p.messages.length = 0 ∧ p.resilience.length = 0 ∧ p.values.length = 0 ∧ ¬ p.states.length ≤ 4
 ·exact classP1 p hp hv h1
 by_cases h2 : p.topology = 1 ∧ ¬ p.fault = 0 ∧ p.values.length = 0
 ·exact classP2 p hp hv h2
 by_cases h3 : p.topology = 1 ∧ p.fault = 0 ∧ ¬ p.messages.length = 0 ∧ p.values.length = 0
 ·exact classP3 p hp hv h3
 by_cases h4 : p.topology = 1 ∧ p.fault = 0 ∧ p.messages.length = 0 ∧ ¬ p.resilience.length = 0 ∧ p.values.length = 0
 ·exact classP4 p hp hv h4
 by_cases h5 : p.topology = 1 ∧ p.fault = 0 ∧ p.messages.length = 0 ∧ p.resilience.length = 0 ∧ ¬ p.values.length = 0 ∧ p.states.length ≤ 4
 ·exact classP5 p hp hv h5
 by_cases h6 : p.topology = 1 ∧ p.fault = 0 ∧ p.messages.length = 0 ∧ p.resilience.length = 0 ∧ ¬ p.values.length = 0 ∧ ¬ p.states.length ≤ 4
 ·exact classP6 p hp hv h6
 by_cases h7 : p.topology = 1 ∧ ¬ p.fault = 0 ∧ ¬ p.values.length = 0
 ·exact classP7 p hp hv h7
 by_cases h8 : p.topology = 1 ∧ p.fault = 0 ∧ ¬ p.messages.length = 0 ∧ ¬ p.values.length = 0
 ·exact classP8 p hp hv h8
 by_cases h9 : p.topology = 1 ∧ p.fault = 0 ∧ p.messages.length = 0 ∧ ¬ p.resilience.length = 0 ∧ ¬ p.values.length = 0
 ·exact classP9 p hp hv h9
 by_cases h10 : p.topology = 2
 ·exact classP10 p hp hv h10
 by_cases h11 : p.topology = 3
 ·exact classP11 p hp hv h11
 by_cases h12 : p.topology = 4
 ·exact classP12 p hp hv h12
 omega
end Go.Proofs.YtkanoljhphmdcaaGreatDoor
