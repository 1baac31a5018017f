import Derived.Test.YtkanoljhphmdcaaGreatDoorFwAa
set_option linter.unusedVariables false
set_option linter.unusedSimpArgs false
namespace Go.Proofs.YtkanoljhphmdcaaGreatDoor
set_option maxRecDepth 100000
set_option maxHeartbeats 16000000
theorem classT0 (p : Pro) (hp : okP p) (hv : validE p = 0) (h0 : p.topology = 1 ∧ p.fault = 0 ∧ p.messages.length = 0 ∧ p.resilience.length = 0 ∧ p.values.length = 0 ∧ p.states.length ≤ 4) : PSpec Tryz.prog 57 [.agg (encP p)] (clsT p):=by
 have hle:=okP_le hp
 refine PSpec.intro tt_ok mx_ok Tryz.func57 rfl (by decide) ?_; (conv=>whnf)
 refine boxP rfl ?_
 conv=>whnf
 (refine oP (validateR p hp) ?_; conv=>whnf)
 refine fI ?_
 conv=>whnf
 repeat' ((first|refine nI ?_|refine aI ?_|refine tI ?_|refine fI ?_|fail);conv=>whnf)
 refine WPc.loopF tt_ok mx_ok (fun z : Nat × Bool × Bool=>z.1 ≤ p.rules.length ∧ (z.2.1 = true ↔ p.topology = 1 ∧ p.values.length = 0 ∧ ∀ j, j < z.1 → riseB (p.rules.getD j rul0))) (fun z=>[(8, .int .i64 (z.1 : Int))]) (fun z=>[(2, .box 115 [.bool false, .bool false, .bool false, .bool false, .bool false]), (7, .box 115 [.bool z.2.1, .bool z.2.2, .bool false, .bool false, .bool true])]) (fun z=>p.rules.length - z.1) (0, true, true) ⟨Nat.zero_le _, fun _=>⟨by omega, by omega, fun j hj=>(by have : j < 0:=hj; omega)⟩, fun _=>rfl⟩ ?_; conv=>whnf
 refine ⟨sI, ?_⟩
 rintro ⟨k, a, b⟩ ⟨hk, hb⟩
 dsimp only at hk hb ⊢
 conv=>whnf
 refine cmpI ?_ ?_ <;> (intro h1; conv=>whnf)
 case refine_2 =>
  rw [rise_end (by omega) hb]
  exact ⟨⟨b, _, _, _, rfl⟩, rfl⟩
 have hlt : k < p.rules.length:=by omega
 refine nI ?_
 rw [tN]
 have nx:=rise_up hlt hb
 have no:=rise_no (p:=p) (k:=k)
 unfold riseB at nx no
 generalize p.rules.getD k rul0 = r at nx no
 conv=>whnf
 by_cases q1 : r.kind = 1 ∧ r.src < r.dst ∧ r.some_.length = 0 ∧ r.forall_.length = 0
 ·repeat' ((first|refine nI ?_|refine aI ?_|refine tI ?_|refine fI ?_|fail);conv=>whnf)
  exact ⟨(k + 1, a, b), sI, ⟨by dsimp only; omega, nx q1⟩, by dsimp only; omega⟩
 by_cases q2 : r.forall_.length = 0
 ·repeat' ((first|refine nI ?_|refine aI ?_|refine dI ?_|refine boxP rfl ?_|refine tI ?_|refine fI ?_|refine cmpI (fun _=>?_) (fun _=>?_)) <;> conv=>whnf)
  all_goals exact ⟨(k + 1, false, b), sI, ⟨by dsimp only; omega, no q1⟩, by dsimp only; omega⟩
 ·repeat' ((first|refine nI ?_|refine aI ?_|refine dI ?_|refine boxP rfl ?_|refine tI ?_|refine fI ?_|refine cmpI (fun _=>?_) (fun _=>?_)) <;> conv=>whnf)
  all_goals exact ⟨(k + 1, false, false), sI, ⟨by dsimp only; omega, no q1⟩, by dsimp only; omega⟩
theorem classT1 (p : Pro) (hp : okP p) (hv : validE p = 0) (h0 : p.topology = 1 ∧ p.fault = 0 ∧ p.messages.length = 0 ∧ p.resilience.length = 0 ∧ p.values.length = 0 ∧ ¬ p.states.length ≤ 4) : PSpec Tryz.prog 57 [.agg (encP p)] (clsT p):=by
 have hle:=okP_le hp
 refine PSpec.intro tt_ok mx_ok Tryz.func57 rfl (by decide) ?_; (conv=>whnf)
 refine boxP rfl ?_
 conv=>whnf
 (refine oP (validateR p hp) ?_; conv=>whnf)
 refine fI ?_
 conv=>whnf
 repeat' ((first|refine nI ?_|refine aI ?_|refine tI ?_|refine fI ?_|fail);conv=>whnf)
 refine WPc.loopF tt_ok mx_ok (fun z : Nat × Bool × Bool=>z.1 ≤ p.rules.length ∧ (z.2.1 = true ↔ p.topology = 1 ∧ p.values.length = 0 ∧ ∀ j, j < z.1 → riseB (p.rules.getD j rul0))) (fun z=>[(8, .int .i64 (z.1 : Int))]) (fun z=>[(2, .box 115 [.bool false, .bool false, .bool false, .bool false, .bool false]), (7, .box 115 [.bool z.2.1, .bool z.2.2, .bool false, .bool false, .bool false])]) (fun z=>p.rules.length - z.1) (0, true, true) ⟨Nat.zero_le _, fun _=>⟨by omega, by omega, fun j hj=>(by have : j < 0:=hj; omega)⟩, fun _=>rfl⟩ ?_; conv=>whnf
 refine ⟨sI, ?_⟩
 rintro ⟨k, a, b⟩ ⟨hk, hb⟩
 dsimp only at hk hb ⊢
 conv=>whnf
 refine cmpI ?_ ?_ <;> (intro h1; conv=>whnf)
 case refine_2 =>
  rw [rise_end (by omega) hb]
  exact ⟨⟨b, _, _, _, rfl⟩, rfl⟩
 have hlt : k < p.rules.length:=by omega
 refine nI ?_
 rw [tN]
 have nx:=rise_up hlt hb
 have no:=rise_no (p:=p) (k:=k)
 unfold riseB at nx no
 generalize p.rules.getD k rul0 = r at nx no
 conv=>whnf
 by_cases q1 : r.kind = 1 ∧ r.src < r.dst ∧ r.some_.length = 0 ∧ r.forall_.length = 0
 ·repeat' ((first|refine nI ?_|refine aI ?_|refine tI ?_|refine fI ?_|fail);conv=>whnf)
  exact ⟨(k + 1, a, b), sI, ⟨by dsimp only; omega, nx q1⟩, by dsimp only; omega⟩
 by_cases q2 : r.forall_.length = 0
 ·repeat' ((first|refine nI ?_|refine aI ?_|refine dI ?_|refine boxP rfl ?_|refine tI ?_|refine fI ?_|refine cmpI (fun _=>?_) (fun _=>?_)) <;> conv=>whnf)
  all_goals exact ⟨(k + 1, false, b), sI, ⟨by dsimp only; omega, no q1⟩, by dsimp only; omega⟩
 ·repeat' ((first|refine nI ?_|refine aI ?_|refine dI ?_|refine boxP rfl ?_|refine tI ?_|refine fI ?_|refine cmpI (fun _=>?_) (fun _=>?_)) <;> conv=>whnf)
  all_goals exact ⟨(k + 1, false, false), sI, ⟨by dsimp only; omega, no q1⟩, by dsimp only; omega⟩
theorem classT2 (p : Pro) (hp : okP p) (hv : validE p = 0) (h0 : p.topology = 1 ∧ ¬ p.fault = 0 ∧ p.values.length = 0) : PSpec Tryz.prog 57 [.agg (encP p)] (clsT p):=by
 have hle:=okP_le hp
 refine PSpec.intro tt_ok mx_ok Tryz.func57 rfl (by decide) ?_; (conv=>whnf)
 refine boxP rfl ?_
 conv=>whnf
 (refine oP (validateR p hp) ?_; conv=>whnf)
 refine fI ?_
 conv=>whnf
 repeat' ((first|refine nI ?_|refine aI ?_|refine tI ?_|refine fI ?_|fail);conv=>whnf)
 refine WPc.loopF tt_ok mx_ok (fun z : Nat × Bool × Bool=>z.1 ≤ p.rules.length ∧ (z.2.1 = true ↔ p.topology = 1 ∧ p.values.length = 0 ∧ ∀ j, j < z.1 → riseB (p.rules.getD j rul0))) (fun z=>[(8, .int .i64 (z.1 : Int))]) (fun z=>[(2, .box 115 [.bool false, .bool false, .bool false, .bool false, .bool false]), (7, .box 115 [.bool z.2.1, .bool z.2.2, .bool false, .bool false, .bool false])]) (fun z=>p.rules.length - z.1) (0, true, false) ⟨Nat.zero_le _, fun _=>⟨by omega, by omega, fun j hj=>(by have : j < 0:=hj; omega)⟩, fun _=>rfl⟩ ?_; conv=>whnf
 refine ⟨sI, ?_⟩
 rintro ⟨k, a, b⟩ ⟨hk, hb⟩
 dsimp only at hk hb ⊢
 conv=>whnf
 refine cmpI ?_ ?_ <;> (intro h1; conv=>whnf)
 case refine_2 =>
  rw [rise_end (by omega) hb]
  exact ⟨⟨b, _, _, _, rfl⟩, rfl⟩
 have hlt : k < p.rules.length:=by omega
 refine nI ?_
 rw [tN]
 have nx:=rise_up hlt hb
 have no:=rise_no (p:=p) (k:=k)
 unfold riseB at nx no
 generalize p.rules.getD k rul0 = r at nx no
 conv=>whnf
 by_cases q1 : r.kind = 1 ∧ r.src < r.dst ∧ r.some_.length = 0 ∧ r.forall_.length = 0
 ·repeat' ((first|refine nI ?_|refine aI ?_|refine tI ?_|refine fI ?_|fail);conv=>whnf)
  exact ⟨(k + 1, a, b), sI, ⟨by dsimp only; omega, nx q1⟩, by dsimp only; omega⟩
 by_cases q2 : r.forall_.length = 0
 ·repeat' ((first|refine nI ?_|refine aI ?_|refine dI ?_|refine boxP rfl ?_|refine tI ?_|refine fI ?_|refine cmpI (fun _=>?_) (fun _=>?_)) <;> conv=>whnf)
  all_goals exact ⟨(k + 1, false, b), sI, ⟨by dsimp only; omega, no q1⟩, by dsimp only; omega⟩
 ·repeat' ((first|refine nI ?_|refine aI ?_|refine dI ?_|refine boxP rfl ?_|refine tI ?_|refine fI ?_|refine cmpI (fun _=>?_) (fun _=>?_)) <;> conv=>whnf)
  all_goals exact ⟨(k + 1, false, false), sI, ⟨by dsimp only; omega, no q1⟩, by dsimp only; omega⟩
theorem classT3 (p : Pro) (hp : okP p) (hv : validE p = 0) (h0 : p.topology = 1 ∧ p.fault = 0 ∧ ¬ p.messages.length = 0 ∧ p.values.length = 0) : PSpec Tryz.prog 57 [.agg (encP p)] (clsT p):=by
 have hle:=okP_le hp
 refine PSpec.intro tt_ok mx_ok Tryz.func57 rfl (by decide) ?_; (conv=>whnf)
 refine boxP rfl ?_
 conv=>whnf
 (refine oP (validateR p hp) ?_; conv=>whnf)
 refine fI ?_
 conv=>whnf
 repeat' ((first|refine nI ?_|refine aI ?_|refine tI ?_|refine fI ?_|fail);conv=>whnf)
 refine WPc.loopF tt_ok mx_ok (fun z : Nat × Bool × Bool=>z.1 ≤ p.rules.length ∧ (z.2.1 = true ↔ p.topology = 1 ∧ p.values.length = 0 ∧ ∀ j, j < z.1 → riseB (p.rules.getD j rul0))) (fun z=>[(8, .int .i64 (z.1 : Int))]) (fun z=>[(2, .box 115 [.bool false, .bool false, .bool false, .bool false, .bool false]), (7, .box 115 [.bool z.2.1, .bool z.2.2, .bool false, .bool false, .bool false])]) (fun z=>p.rules.length - z.1) (0, true, false) ⟨Nat.zero_le _, fun _=>⟨by omega, by omega, fun j hj=>(by have : j < 0:=hj; omega)⟩, fun _=>rfl⟩ ?_; conv=>whnf
 refine ⟨sI, ?_⟩
 rintro ⟨k, a, b⟩ ⟨hk, hb⟩
 dsimp only at hk hb ⊢
 conv=>whnf
 refine cmpI ?_ ?_ <;> (intro h1; conv=>whnf)
 case refine_2 =>
  rw [rise_end (by omega) hb]
  exact ⟨⟨b, _, _, _, rfl⟩, rfl⟩
 have hlt : k < p.rules.length:=by omega
 refine nI ?_
 rw [tN]
 have nx:=rise_up hlt hb
 have no:=rise_no (p:=p) (k:=k)
 unfold riseB at nx no
 generalize p.rules.getD k rul0 = r at nx no
 conv=>whnf
 by_cases q1 : r.kind = 1 ∧ r.src < r.dst ∧ r.some_.length = 0 ∧ r.forall_.length = 0
 ·repeat' ((first|refine nI ?_|refine aI ?_|refine tI ?_|refine fI ?_|fail);conv=>whnf)
  exact ⟨(k + 1, a, b), sI, ⟨by dsimp only; omega, nx q1⟩, by dsimp only; omega⟩
 by_cases q2 : r.forall_.length = 0
 ·repeat' ((first|refine nI ?_|refine aI ?_|refine dI ?_|refine boxP rfl ?_|refine tI ?_|refine fI ?_|refine cmpI (fun _=>?_) (fun _=>?_)) <;> conv=>whnf)
  all_goals exact ⟨(k + 1, false, b), sI, ⟨by dsimp only; omega, no q1⟩, by dsimp only; omega⟩
 ·repeat' ((first|refine nI ?_|refine aI ?_|refine dI ?_|refine boxP rfl ?_|refine tI ?_|refine fI ?_|refine cmpI (fun _=>?_) (fun _=>?_)) <;> conv=>whnf)
  all_goals exact ⟨(k + 1, false, false), sI, ⟨by dsimp only; omega, no q1⟩, by dsimp only; omega⟩
theorem classT4 (p : Pro) (hp : okP p) (hv : validE p = 0) (h0 : p.topology = 1 ∧ p.fault = 0 ∧ p.messages.length = 0 ∧ ¬ p.resilience.length = 0 ∧ p.values.length = 0) : PSpec Tryz.prog 57 [.agg (encP p)] (clsT p):=by
 have hle:=okP_le hp
 refine PSpec.intro tt_ok mx_ok Tryz.func57 rfl (by decide) ?_; (conv=>whnf)
 refine boxP rfl ?_
 conv=>whnf
 (refine oP (validateR p hp) ?_; conv=>whnf)
 refine fI ?_
 conv=>whnf
 repeat' ((first|refine nI ?_|refine aI ?_|refine tI ?_|refine fI ?_|fail);conv=>whnf)
 refine WPc.loopF tt_ok mx_ok (fun z : Nat × Bool × Bool=>z.1 ≤ p.rules.length ∧ (z.2.1 = true ↔ p.topology = 1 ∧ p.values.length = 0 ∧ ∀ j, j < z.1 → riseB (p.rules.getD j rul0))) (fun z=>[(8, .int .i64 (z.1 : Int))]) (fun z=>[(2, .box 115 [.bool false, .bool false, .bool false, .bool false, .bool false]), (7, .box 115 [.bool z.2.1, .bool z.2.2, .bool false, .bool false, .bool false])]) (fun z=>p.rules.length - z.1) (0, true, false) ⟨Nat.zero_le _, fun _=>⟨by omega, by omega, fun j hj=>(by have : j < 0:=hj; omega)⟩, fun _=>rfl⟩ ?_; conv=>whnf
 refine ⟨sI, ?_⟩
 rintro ⟨k, a, b⟩ ⟨hk, hb⟩
 dsimp only at hk hb ⊢
 conv=>whnf
 refine cmpI ?_ ?_ <;> (intro h1; conv=>whnf)
 case refine_2 =>
  rw [rise_end (by omega) hb]
  exact ⟨⟨b, _, _, _, rfl⟩, rfl⟩
 have hlt : k < p.rules.length:=by omega
 refine nI ?_
 rw [tN]
 have nx:=rise_up hlt hb
 have no:=rise_no (p:=p) (k:=k)
 unfold riseB at nx no
 generalize p.rules.getD k rul0 = r at nx no
 conv=>whnf
 by_cases q1 : r.kind = 1 ∧ r.src < r.dst ∧ r.some_.length = 0 ∧ r.forall_.length = 0
 ·repeat' ((first|refine nI ?_|refine aI ?_|refine tI ?_|refine fI ?_|fail);conv=>whnf)
  exact ⟨(k + 1, a, b), sI, ⟨by dsimp only; omega, nx q1⟩, by dsimp only; omega⟩
 by_cases q2 : r.forall_.length = 0
 ·repeat' ((first|refine nI ?_|refine aI ?_|refine dI ?_|refine boxP rfl ?_|refine tI ?_|refine fI ?_|refine cmpI (fun _=>?_) (fun _=>?_)) <;> conv=>whnf)
  all_goals exact ⟨(k + 1, false, b), sI, ⟨by dsimp only; omega, no q1⟩, by dsimp only; omega⟩
 ·repeat' ((first|refine nI ?_|refine aI ?_|refine dI ?_|refine boxP rfl ?_|refine tI ?_|refine fI ?_|refine cmpI (fun _=>?_) (fun _=>?_)) <;> conv=>whnf)
  all_goals exact ⟨(k + 1, false, false), sI, ⟨by dsimp only; omega, no q1⟩, by dsimp only; omega⟩
theorem classT5 (p : Pro) (hp : okP p) (hv : validE p = 0) (h0 : p.topology = 1 ∧ p.fault = 0 ∧ p.messages.length = 0 ∧ p.resilience.length = 0 ∧ ¬ p.values.length = 0 ∧ p.states.length ≤ 4) : PSpec Tryz.prog 57 [.agg (encP p)] (clsT p):=by
 have hle:=okP_le hp
 refine PSpec.intro tt_ok mx_ok Tryz.func57 rfl (by decide) ?_; (conv=>whnf)
 refine boxP rfl ?_
 conv=>whnf
 (refine oP (validateR p hp) ?_; conv=>whnf)
 refine fI ?_
 conv=>whnf
 repeat' ((first|refine nI ?_|refine aI ?_|refine tI ?_|refine fI ?_|fail);conv=>whnf)
 refine WPc.loopF tt_ok mx_ok (fun z : Nat × Bool × Bool=>z.1 ≤ p.rules.length ∧ (z.2.1 = true ↔ p.topology = 1 ∧ p.values.length = 0 ∧ ∀ j, j < z.1 → riseB (p.rules.getD j rul0))) (fun z=>[(8, .int .i64 (z.1 : Int))]) (fun z=>[(2, .box 115 [.bool false, .bool false, .bool false, .bool false, .bool false]), (7, .box 115 [.bool z.2.1, .bool z.2.2, .bool false, .bool false, .bool true])]) (fun z=>p.rules.length - z.1) (0, false, true) ⟨Nat.zero_le _, fun e=>(by cases e), fun e=>(by have:=e.1; have:=e.2.1; omega)⟩ ?_; conv=>whnf
 refine ⟨sI, ?_⟩
 rintro ⟨k, a, b⟩ ⟨hk, hb⟩
 dsimp only at hk hb ⊢
 conv=>whnf
 refine cmpI ?_ ?_ <;> (intro h1; conv=>whnf)
 case refine_2 =>
  rw [rise_end (by omega) hb]
  exact ⟨⟨b, _, _, _, rfl⟩, rfl⟩
 have hlt : k < p.rules.length:=by omega
 refine nI ?_
 rw [tN]
 have nx:=rise_up hlt hb
 have no:=rise_no (p:=p) (k:=k)
 unfold riseB at nx no
 generalize p.rules.getD k rul0 = r at nx no
 conv=>whnf
 by_cases q1 : r.kind = 1 ∧ r.src < r.dst ∧ r.some_.length = 0 ∧ r.forall_.length = 0
 ·repeat' ((first|refine nI ?_|refine aI ?_|refine tI ?_|refine fI ?_|fail);conv=>whnf)
  exact ⟨(k + 1, a, b), sI, ⟨by dsimp only; omega, nx q1⟩, by dsimp only; omega⟩
 by_cases q2 : r.forall_.length = 0
 ·repeat' ((first|refine nI ?_|refine aI ?_|refine dI ?_|refine boxP rfl ?_|refine tI ?_|refine fI ?_|refine cmpI (fun _=>?_) (fun _=>?_)) <;> conv=>whnf)
  all_goals exact ⟨(k + 1, false, b), sI, ⟨by dsimp only; omega, no q1⟩, by dsimp only; omega⟩
 ·repeat' ((first|refine nI ?_|refine aI ?_|refine dI ?_|refine boxP rfl ?_|refine tI ?_|refine fI ?_|refine cmpI (fun _=>?_) (fun _=>?_)) <;> conv=>whnf)
  all_goals exact ⟨(k + 1, false, false), sI, ⟨by dsimp only; omega, no q1⟩, by dsimp only; omega⟩
theorem classT6 (p : Pro) (hp : okP p) (hv : validE p = 0) (h0 : p.topology = 1 ∧ p.fault = 0 ∧ p.messages.length = 0 ∧ p.resilience.length = 0 ∧ ¬ p.values.length = 0 ∧ ¬ p.states.length ≤ 4) : PSpec Tryz.prog 57 [.agg (encP p)] (clsT p):=by
 have hle:=okP_le hp
 refine PSpec.intro tt_ok mx_ok Tryz.func57 rfl (by decide) ?_; (conv=>whnf)
 refine boxP rfl ?_
 conv=>whnf
 (refine oP (validateR p hp) ?_; conv=>whnf)
 refine fI ?_
 conv=>whnf
 repeat' ((first|refine nI ?_|refine aI ?_|refine tI ?_|refine fI ?_|fail);conv=>whnf)
 refine WPc.loopF tt_ok mx_ok (fun z : Nat × Bool × Bool=>z.1 ≤ p.rules.length ∧ (z.2.1 = true ↔ p.topology = 1 ∧ p.values.length = 0 ∧ ∀ j, j < z.1 → riseB (p.rules.getD j rul0))) (fun z=>[(8, .int .i64 (z.1 : Int))]) (fun z=>[(2, .box 115 [.bool false, .bool false, .bool false, .bool false, .bool false]), (7, .box 115 [.bool z.2.1, .bool z.2.2, .bool false, .bool false, .bool false])]) (fun z=>p.rules.length - z.1) (0, false, true) ⟨Nat.zero_le _, fun e=>(by cases e), fun e=>(by have:=e.1; have:=e.2.1; omega)⟩ ?_; conv=>whnf
 refine ⟨sI, ?_⟩
 rintro ⟨k, a, b⟩ ⟨hk, hb⟩
 dsimp only at hk hb ⊢
 conv=>whnf
 refine cmpI ?_ ?_ <;> (intro h1; conv=>whnf)
 case refine_2 =>
  rw [rise_end (by omega) hb]
  exact ⟨⟨b, _, _, _, rfl⟩, rfl⟩
 have hlt : k < p.rules.length:=by omega
 refine nI ?_
 rw [tN]
 have nx:=rise_up hlt hb
 have no:=rise_no (p:=p) (k:=k)
 unfold riseB at nx no
 generalize p.rules.getD k rul0 = r at nx no
 conv=>whnf
 by_cases q1 : r.kind = 1 ∧ r.src < r.dst ∧ r.some_.length = 0 ∧ r.forall_.length = 0
 ·repeat' ((first|refine nI ?_|refine aI ?_|refine tI ?_|refine fI ?_|fail);conv=>whnf)
  exact ⟨(k + 1, a, b), sI, ⟨by dsimp only; omega, nx q1⟩, by dsimp only; omega⟩
 by_cases q2 : r.forall_.length = 0
 ·repeat' ((first|refine nI ?_|refine aI ?_|refine dI ?_|refine boxP rfl ?_|refine tI ?_|refine fI ?_|refine cmpI (fun _=>?_) (fun _=>?_)) <;> conv=>whnf)
  all_goals exact ⟨(k + 1, false, b), sI, ⟨by dsimp only; omega, no q1⟩, by dsimp only; omega⟩
 ·repeat' ((first|refine nI ?_|refine aI ?_|refine dI ?_|refine boxP rfl ?_|refine tI ?_|refine fI ?_|refine cmpI (fun _=>?_) (fun _=>?_)) <;> conv=>whnf)
  all_goals exact ⟨(k + 1, false, false), sI, ⟨by dsimp only; omega, no q1⟩, by dsimp only; omega⟩
theorem classT7 (p : Pro) (hp : okP p) (hv : validE p = 0) (h0 : p.topology = 1 ∧ ¬ p.fault = 0 ∧ ¬ p.values.length = 0) : PSpec Tryz.prog 57 [.agg (encP p)] (clsT p):=by
 have hle:=okP_le hp
 refine PSpec.intro tt_ok mx_ok Tryz.func57 rfl (by decide) ?_; (conv=>whnf)
 refine boxP rfl ?_
 conv=>whnf
 (refine oP (validateR p hp) ?_; conv=>whnf)
 refine fI ?_
 conv=>whnf
 repeat' ((first|refine nI ?_|refine aI ?_|refine tI ?_|refine fI ?_|fail);conv=>whnf)
 refine WPc.loopF tt_ok mx_ok (fun z : Nat × Bool × Bool=>z.1 ≤ p.rules.length ∧ (z.2.1 = true ↔ p.topology = 1 ∧ p.values.length = 0 ∧ ∀ j, j < z.1 → riseB (p.rules.getD j rul0))) (fun z=>[(8, .int .i64 (z.1 : Int))]) (fun z=>[(2, .box 115 [.bool false, .bool false, .bool false, .bool false, .bool false]), (7, .box 115 [.bool z.2.1, .bool z.2.2, .bool false, .bool false, .bool false])]) (fun z=>p.rules.length - z.1) (0, false, false) ⟨Nat.zero_le _, fun e=>(by cases e), fun e=>(by have:=e.1; have:=e.2.1; omega)⟩ ?_; conv=>whnf
 refine ⟨sI, ?_⟩
 rintro ⟨k, a, b⟩ ⟨hk, hb⟩
 dsimp only at hk hb ⊢
 conv=>whnf
 refine cmpI ?_ ?_ <;> (intro h1; conv=>whnf)
 case refine_2 =>
  rw [rise_end (by omega) hb]
  exact ⟨⟨b, _, _, _, rfl⟩, rfl⟩
 have hlt : k < p.rules.length:=by omega
 refine nI ?_
 rw [tN]
 have nx:=rise_up hlt hb
 have no:=rise_no (p:=p) (k:=k)
 unfold riseB at nx no
 generalize p.rules.getD k rul0 = r at nx no
 conv=>whnf
 by_cases q1 : r.kind = 1 ∧ r.src < r.dst ∧ r.some_.length = 0 ∧ r.forall_.length = 0
 ·repeat' ((first|refine nI ?_|refine aI ?_|refine tI ?_|refine fI ?_|fail);conv=>whnf)
  exact ⟨(k + 1, a, b), sI, ⟨by dsimp only; omega, nx q1⟩, by dsimp only; omega⟩
 by_cases q2 : r.forall_.length = 0
 ·repeat' ((first|refine nI ?_|refine aI ?_|refine dI ?_|refine boxP rfl ?_|refine tI ?_|refine fI ?_|refine cmpI (fun _=>?_) (fun _=>?_)) <;> conv=>whnf)
  all_goals exact ⟨(k + 1, false, b), sI, ⟨by dsimp only; omega, no q1⟩, by dsimp only; omega⟩
 ·repeat' ((first|refine nI ?_|refine aI ?_|refine dI ?_|refine boxP rfl ?_|refine tI ?_|refine fI ?_|refine cmpI (fun _=>?_) (fun _=>?_)) <;> conv=>whnf)
  all_goals exact ⟨(k + 1, false, false), sI, ⟨by dsimp only; omega, no q1⟩, by dsimp only; omega⟩
theorem classT8 (p : Pro) (hp : okP p) (hv : validE p = 0) (h0 : p.topology = 1 ∧ p.fault = 0 ∧ ¬ p.messages.length = 0 ∧ ¬ p.values.length = 0) : PSpec Tryz.prog 57 [.agg (encP p)] (clsT p):=by
 have hle:=okP_le hp
 refine PSpec.intro tt_ok mx_ok Tryz.func57 rfl (by decide) ?_; (conv=>whnf)
 refine boxP rfl ?_
 conv=>whnf
 (refine oP (validateR p hp) ?_; conv=>whnf)
 refine fI ?_
 conv=>whnf
 repeat' ((first|refine nI ?_|refine aI ?_|refine tI ?_|refine fI ?_|fail);conv=>whnf)
 refine WPc.loopF tt_ok mx_ok (fun z : Nat × Bool × Bool=>z.1 ≤ p.rules.length ∧ (z.2.1 = true ↔ p.topology = 1 ∧ p.values.length = 0 ∧ ∀ j, j < z.1 → riseB (p.rules.getD j rul0))) (fun z=>[(8, .int .i64 (z.1 : Int))]) (fun z=>[(2, .box 115 [.bool false, .bool false, .bool false, .bool false, .bool false]), (7, .box 115 [.bool z.2.1, .bool z.2.2, .bool false, .bool false, .bool false])]) (fun z=>p.rules.length - z.1) (0, false, false) ⟨Nat.zero_le _, fun e=>(by cases e), fun e=>(by have:=e.1; have:=e.2.1; omega)⟩ ?_; conv=>whnf
 refine ⟨sI, ?_⟩
 rintro ⟨k, a, b⟩ ⟨hk, hb⟩
 dsimp only at hk hb ⊢
 conv=>whnf
 refine cmpI ?_ ?_ <;> (intro h1; conv=>whnf)
 case refine_2 =>
  rw [rise_end (by omega) hb]
  exact ⟨⟨b, _, _, _, rfl⟩, rfl⟩
 have hlt : k < p.rules.length:=by omega
 refine nI ?_
 rw [tN]
 have nx:=rise_up hlt hb
 have no:=rise_no (p:=p) (k:=k)
 unfold riseB at nx no
 generalize p.rules.getD k rul0 = r at nx no
 conv=>whnf
 by_cases q1 : r.kind = 1 ∧ r.src < r.dst ∧ r.some_.length = 0 ∧ r.forall_.length = 0
 ·repeat' ((first|refine nI ?_|refine aI ?_|refine tI ?_|refine fI ?_|fail);conv=>whnf)
  exact ⟨(k + 1, a, b), sI, ⟨by dsimp only; omega, nx q1⟩, by dsimp only; omega⟩
 by_cases q2 : r.forall_.length = 0
 ·repeat' ((first|refine nI ?_|refine aI ?_|refine dI ?_|refine boxP rfl ?_|refine tI ?_|refine fI ?_|refine cmpI (fun _=>?_) (fun _=>?_)) <;> conv=>whnf)
  all_goals exact ⟨(k + 1, false, b), sI, ⟨by dsimp only; omega, no q1⟩, by dsimp only; omega⟩
 ·repeat' ((first|refine nI ?_|refine aI ?_|refine dI ?_|refine boxP rfl ?_|refine tI ?_|refine fI ?_|refine cmpI (fun _=>?_) (fun _=>?_)) <;> conv=>whnf)
  all_goals exact ⟨(k + 1, false, false), sI, ⟨by dsimp only; omega, no q1⟩, by dsimp only; omega⟩
theorem classT9 (p : Pro) (hp : okP p) (hv : validE p = 0) (h0 : p.topology = 1 ∧ p.fault = 0 ∧ p.messages.length = 0 ∧ ¬ p.resilience.length = 0 ∧ ¬ p.values.length = 0) : PSpec Tryz.prog 57 [.agg (encP p)] (clsT p):=by
 have hle:=okP_le hp
 refine PSpec.intro tt_ok mx_ok Tryz.func57 rfl (by decide) ?_; (conv=>whnf)
 refine boxP rfl ?_
 conv=>whnf
 (refine oP (validateR p hp) ?_; conv=>whnf)
 refine fI ?_
 conv=>whnf
 repeat' ((first|refine nI ?_|refine aI ?_|refine tI ?_|refine fI ?_|fail);conv=>whnf)
 refine WPc.loopF tt_ok mx_ok (fun z : Nat × Bool × Bool=>z.1 ≤ p.rules.length ∧ (z.2.1 = true ↔ p.topology = 1 ∧ p.values.length = 0 ∧ ∀ j, j < z.1 → riseB (p.rules.getD j rul0))) (fun z=>[(8, .int .i64 (z.1 : Int))]) (fun z=>[(2, .box 115 [.bool false, .bool false, .bool false, .bool false, .bool false]), (7, .box 115 [.bool z.2.1, .bool z.2.2, .bool false, .bool false, .bool false])]) (fun z=>p.rules.length - z.1) (0, false, false) ⟨Nat.zero_le _, fun e=>(by cases e), fun e=>(by have:=e.1; have:=e.2.1; omega)⟩ ?_; conv=>whnf
 refine ⟨sI, ?_⟩
 rintro ⟨k, a, b⟩ ⟨hk, hb⟩
 dsimp only at hk hb ⊢
 conv=>whnf
 refine cmpI ?_ ?_ <;> (intro h1; conv=>whnf)
 case refine_2 =>
  rw [rise_end (by omega) hb]
  exact ⟨⟨b, _, _, _, rfl⟩, rfl⟩
 have hlt : k < p.rules.length:=by omega
 refine nI ?_
 rw [tN]
 have nx:=rise_up hlt hb
 have no:=rise_no (p:=p) (k:=k)
 unfold riseB at nx no
 generalize p.rules.getD k rul0 = r at nx no
 conv=>whnf
 by_cases q1 : r.kind = 1 ∧ r.src < r.dst ∧ r.some_.length = 0 ∧ r.forall_.length = 0
 ·repeat' ((first|refine nI ?_|refine aI ?_|refine tI ?_|refine fI ?_|fail);conv=>whnf)
  exact ⟨(k + 1, a, b), sI, ⟨by dsimp only; omega, nx q1⟩, by dsimp only; omega⟩
 by_cases q2 : r.forall_.length = 0
 ·repeat' ((first|refine nI ?_|refine aI ?_|refine dI ?_|refine boxP rfl ?_|refine tI ?_|refine fI ?_|refine cmpI (fun _=>?_) (fun _=>?_)) <;> conv=>whnf)
  all_goals exact ⟨(k + 1, false, b), sI, ⟨by dsimp only; omega, no q1⟩, by dsimp only; omega⟩
 ·repeat' ((first|refine nI ?_|refine aI ?_|refine dI ?_|refine boxP rfl ?_|refine tI ?_|refine fI ?_|refine cmpI (fun _=>?_) (fun _=>?_)) <;> conv=>whnf)
  all_goals exact ⟨(k + 1, false, false), sI, ⟨by dsimp only; omega, no q1⟩, by dsimp only; omega⟩
theorem classT10 (p : Pro) (hp : okP p) (hv : validE p = 0) (h0 : p.topology = 2) : PSpec Tryz.prog 57 [.agg (encP p)] (clsT p):=by
 have hle:=okP_le hp
 refine PSpec.intro tt_ok mx_ok Tryz.func57 rfl (by decide) ?_; (conv=>whnf)
 refine boxP rfl ?_
 conv=>whnf
 (refine oP (validateR p hp) ?_; conv=>whnf)
 refine fI ?_
 conv=>whnf
 repeat' ((first|refine nI ?_|refine aI ?_|refine tI ?_|refine fI ?_|fail);conv=>whnf)
 refine WPc.loopF tt_ok mx_ok (fun z : Nat × Bool × Bool=>z.1 ≤ p.rules.length ∧ (z.2.1 = true ↔ p.topology = 1 ∧ p.values.length = 0 ∧ ∀ j, j < z.1 → riseB (p.rules.getD j rul0))) (fun z=>[(8, .int .i64 (z.1 : Int))]) (fun z=>[(2, .box 115 [.bool false, .bool false, .bool false, .bool false, .bool false]), (7, .box 115 [.bool z.2.1, .bool z.2.2, .bool true, .bool false, .bool false])]) (fun z=>p.rules.length - z.1) (0, false, false) ⟨Nat.zero_le _, fun e=>(by cases e), fun e=>(by have:=e.1; have:=e.2.1; omega)⟩ ?_; conv=>whnf
 refine ⟨sI, ?_⟩
 rintro ⟨k, a, b⟩ ⟨hk, hb⟩
 dsimp only at hk hb ⊢
 conv=>whnf
 refine cmpI ?_ ?_ <;> (intro h1; conv=>whnf)
 case refine_2 =>
  rw [rise_end (by omega) hb]
  exact ⟨⟨b, _, _, _, rfl⟩, rfl⟩
 have hlt : k < p.rules.length:=by omega
 refine nI ?_
 rw [tN]
 have nx:=rise_up hlt hb
 have no:=rise_no (p:=p) (k:=k)
 unfold riseB at nx no
 generalize p.rules.getD k rul0 = r at nx no
 conv=>whnf
 by_cases q1 : r.kind = 1 ∧ r.src < r.dst ∧ r.some_.length = 0 ∧ r.forall_.length = 0
 ·repeat' ((first|refine nI ?_|refine aI ?_|refine tI ?_|refine fI ?_|fail);conv=>whnf)
  exact ⟨(k + 1, a, b), sI, ⟨by dsimp only; omega, nx q1⟩, by dsimp only; omega⟩
 by_cases q2 : r.forall_.length = 0
 ·repeat' ((first|refine nI ?_|refine aI ?_|refine dI ?_|refine boxP rfl ?_|refine tI ?_|refine fI ?_|refine cmpI (fun _=>?_) (fun _=>?_)) <;> conv=>whnf)
  all_goals exact ⟨(k + 1, false, b), sI, ⟨by dsimp only; omega, no q1⟩, by dsimp only; omega⟩
 ·repeat' ((first|refine nI ?_|refine aI ?_|refine dI ?_|refine boxP rfl ?_|refine tI ?_|refine fI ?_|refine cmpI (fun _=>?_) (fun _=>?_)) <;> conv=>whnf)
  all_goals exact ⟨(k + 1, false, false), sI, ⟨by dsimp only; omega, no q1⟩, by dsimp only; omega⟩
theorem classT11 (p : Pro) (hp : okP p) (hv : validE p = 0) (h0 : p.topology = 3) : PSpec Tryz.prog 57 [.agg (encP p)] (clsT p):=by
 have hle:=okP_le hp
 refine PSpec.intro tt_ok mx_ok Tryz.func57 rfl (by decide) ?_; (conv=>whnf)
 refine boxP rfl ?_
 conv=>whnf
 (refine oP (validateR p hp) ?_; conv=>whnf)
 refine fI ?_
 conv=>whnf
 repeat' ((first|refine nI ?_|refine aI ?_|refine tI ?_|refine fI ?_|fail);conv=>whnf)
 refine WPc.loopF tt_ok mx_ok (fun z : Nat × Bool × Bool=>z.1 ≤ p.rules.length ∧ (z.2.1 = true ↔ p.topology = 1 ∧ p.values.length = 0 ∧ ∀ j, j < z.1 → riseB (p.rules.getD j rul0))) (fun z=>[(8, .int .i64 (z.1 : Int))]) (fun z=>[(2, .box 115 [.bool false, .bool false, .bool false, .bool false, .bool false]), (7, .box 115 [.bool z.2.1, .bool z.2.2, .bool true, .bool false, .bool false])]) (fun z=>p.rules.length - z.1) (0, false, false) ⟨Nat.zero_le _, fun e=>(by cases e), fun e=>(by have:=e.1; have:=e.2.1; omega)⟩ ?_; conv=>whnf
 refine ⟨sI, ?_⟩
 rintro ⟨k, a, b⟩ ⟨hk, hb⟩
 dsimp only at hk hb ⊢
 conv=>whnf
 refine cmpI ?_ ?_ <;> (intro h1; conv=>whnf)
 case refine_2 =>
  rw [rise_end (by omega) hb]
  exact ⟨⟨b, _, _, _, rfl⟩, rfl⟩
 have hlt : k < p.rules.length:=by omega
 refine nI ?_
 rw [tN]
 have nx:=rise_up hlt hb
 have no:=rise_no (p:=p) (k:=k)
 unfold riseB at nx no
 generalize p.rules.getD k rul0 = r at nx no
 conv=>whnf
 by_cases q1 : r.kind = 1 ∧ r.src < r.dst ∧ r.some_.length = 0 ∧ r.forall_.length = 0
 ·repeat' ((first|refine nI ?_|refine aI ?_|refine tI ?_|refine fI ?_|fail);conv=>whnf)
  exact ⟨(k + 1, a, b), sI, ⟨by dsimp only; omega, nx q1⟩, by dsimp only; omega⟩
 by_cases q2 : r.forall_.length = 0
 ·repeat' ((first|refine nI ?_|refine aI ?_|refine dI ?_|refine boxP rfl ?_|refine tI ?_|refine fI ?_|refine cmpI (fun _=>?_) (fun _=>?_)) <;> conv=>whnf)
  all_goals exact ⟨(k + 1, false, b), sI, ⟨by dsimp only; omega, no q1⟩, by dsimp only; omega⟩
 ·repeat' ((first|refine nI ?_|refine aI ?_|refine dI ?_|refine boxP rfl ?_|refine tI ?_|refine fI ?_|refine cmpI (fun _=>?_) (fun _=>?_)) <;> conv=>whnf)
  all_goals exact ⟨(k + 1, false, false), sI, ⟨by dsimp only; omega, no q1⟩, by dsimp only; omega⟩
theorem classT12 (p : Pro) (hp : okP p) (hv : validE p = 0) (h0 : p.topology = 4) : PSpec Tryz.prog 57 [.agg (encP p)] (clsT p):=by
 have hle:=okP_le hp
 refine PSpec.intro tt_ok mx_ok Tryz.func57 rfl (by decide) ?_; (conv=>whnf)
 refine boxP rfl ?_
 conv=>whnf
 (refine oP (validateR p hp) ?_; conv=>whnf)
 refine fI ?_
 conv=>whnf
 repeat' ((first|refine nI ?_|refine aI ?_|refine tI ?_|refine fI ?_|fail);conv=>whnf)
 refine WPc.loopF tt_ok mx_ok (fun z : Nat × Bool × Bool=>z.1 ≤ p.rules.length ∧ (z.2.1 = true ↔ p.topology = 1 ∧ p.values.length = 0 ∧ ∀ j, j < z.1 → riseB (p.rules.getD j rul0))) (fun z=>[(8, .int .i64 (z.1 : Int))]) (fun z=>[(2, .box 115 [.bool false, .bool false, .bool false, .bool false, .bool false]), (7, .box 115 [.bool z.2.1, .bool z.2.2, .bool false, .bool true, .bool false])]) (fun z=>p.rules.length - z.1) (0, false, false) ⟨Nat.zero_le _, fun e=>(by cases e), fun e=>(by have:=e.1; have:=e.2.1; omega)⟩ ?_; conv=>whnf
 refine ⟨sI, ?_⟩
 rintro ⟨k, a, b⟩ ⟨hk, hb⟩
 dsimp only at hk hb ⊢
 conv=>whnf
 refine cmpI ?_ ?_ <;> (intro h1; conv=>whnf)
 case refine_2 =>
  rw [rise_end (by omega) hb]
  exact ⟨⟨b, _, _, _, rfl⟩, rfl⟩
 have hlt : k < p.rules.length:=by omega
 refine nI ?_
 rw [tN]
 have nx:=rise_up hlt hb
 have no:=rise_no (p:=p) (k:=k)
 unfold riseB at nx no
 generalize p.rules.getD k rul0 = r at nx no
 conv=>whnf
 by_cases q1 : r.kind = 1 ∧ r.src < r.dst ∧ r.some_.length = 0 ∧ r.forall_.length = 0
 ·repeat' ((first|refine nI ?_|refine aI ?_|refine tI ?_|refine fI ?_|fail);conv=>whnf)
  exact ⟨(k + 1, a, b), sI, ⟨by dsimp only; omega, nx q1⟩, by dsimp only; omega⟩
 by_cases q2 : r.forall_.length = 0
 ·repeat' ((first|refine nI ?_|refine aI ?_|refine dI ?_|refine boxP rfl ?_|refine tI ?_|refine fI ?_|refine cmpI (fun _=>?_) (fun _=>?_)) <;> conv=>whnf)
  all_goals exact ⟨(k + 1, false, b), sI, ⟨by dsimp only; omega, no q1⟩, by dsimp only; omega⟩
 ·repeat' ((first|refine nI ?_|refine aI ?_|refine dI ?_|refine boxP rfl ?_|refine tI ?_|refine fI ?_|refine cmpI (fun _=>?_) (fun _=>?_)) <;> conv=>whnf)
  all_goals exact ⟨(k + 1, false, false), sI, ⟨by dsimp only; omega, no q1⟩, by dsimp only; omega⟩
theorem classT (p : Pro) (hp : okP p) (hv : validE p = 0) : PSpec Tryz.prog 57 [.agg (encP p)] (clsT p):=by
 have ht:=(vld_of hv).top
 by_cases h0 : p.topology = 1 ∧ p.fault = 0 ∧ p.messages.length = 0 ∧ p.resilience.length = 0 ∧ p.values.length = 0 ∧ p.states.length ≤ 4
 ·exact classT0 p hp hv h0
 by_cases h1 : p.topology = 1 ∧ p.fault = 0 ∧ p.messages.length = 0 ∧ p.resilience.length = 0 ∧ p.values.length = 0 ∧ ¬ p.states.length ≤ 4
 ·exact classT1 p hp hv h1
 by_cases h2 : p.topology = 1 ∧ ¬ p.fault = 0 ∧ p.values.length = 0
 ·exact classT2 p hp hv h2
 by_cases h3 : p.topology = 1 ∧ p.fault = 0 ∧ ¬ p.messages.length = 0 ∧ p.values.length = 0
 ·exact classT3 p hp hv h3
 by_cases h4 : p.topology = 1 ∧ p.fault = 0 ∧ p.messages.length = 0 ∧ ¬ p.resilience.length = 0 ∧ p.values.length = 0
 ·exact classT4 p hp hv h4
 by_cases h5 : p.topology = 1 ∧ p.fault = 0 ∧ p.messages.length = 0 ∧ p.resilience.length = 0 ∧ ¬ p.values.length = 0 ∧ p.states.length ≤ 4
 ·exact classT5 p hp hv h5
 by_cases h6 : p.topology = 1 ∧ p.fault = 0 ∧ p.messages.length = 0 ∧ p.resilience.length = 0 ∧ ¬ p.values.length = 0 ∧ ¬ p.states.length ≤ 4
 ·exact classT6 p hp hv h6
 by_cases h7 : p.topology = 1 ∧ ¬ p.fault = 0 ∧ ¬ p.values.length = 0
 ·exact classT7 p hp hv h7
 by_cases h8 : p.topology = 1 ∧ p.fault = 0 ∧ ¬ p.messages.length = 0 ∧ ¬ p.values.length = 0
 ·exact classT8 p hp hv h8
 by_cases h9 : p.topology = 1 ∧ p.fault = 0 ∧ p.messages.length = 0 ∧ ¬ p.resilience.length = 0 ∧ ¬ p.values.length = 0
 ·exact classT9 p hp hv h9
 by_cases h10 : p.topology = 2
 ·exact classT10 p hp hv h10
 by_cases h11 : p.topology = 3
 ·exact classT11 p hp hv h11
 by_cases h12 : p.topology = 4
 ·exact classT12 p hp hv h12
 omega
theorem classT_e (p : Pro) (hp : okP p) (hv : validE p ≠ 0) : PSpec Tryz.prog 57 [.agg (encP p)] (fun u=>u = .tup [.agg [.bool false, .bool false, .bool false, .bool false, .bool false], .int .i64 (validE p)]):=by
 refine PSpec.intro tt_ok mx_ok Tryz.func57 rfl (by decide) ?_; (conv=>whnf)
 refine boxP rfl ?_
 conv=>whnf
 (refine oP (validateR p hp) ?_; conv=>whnf)
 refine cmpT hv ?_
 conv=>whnf
 exact ⟨rfl, rfl⟩
end Go.Proofs.YtkanoljhphmdcaaGreatDoor
