import Derived.Test.YtjnjieabdjpfnaaGreatDoorM7
import Derived.Test.YtjnjieabdjpfnaaGreatDoorFoT
set_option linter.unusedVariables false
set_option linter.unusedSimpArgs false
namespace Go.Proofs.YtjnjieabdjpfnaaGreatDoor
set_option maxRecDepth 100000
set_option maxHeartbeats 16000000
def clsR (p : Pro) : AV → Prop := fun u => ∃ a b c d e : Bool, u = .tup [.agg [.bool a, .bool b, .bool c, .bool d, .bool e], .int .i64 0] ∧ (b = true → covB p)
theorem classify0 (p : Pro) (hp : ¬ bigP p) (hv : validE p = 0) (h0 : p.topology = 1 ∧ p.fault = 0 ∧ p.messages.length = 0 ∧ p.resilience.length = 0 ∧ p.values.length = 0 ∧ p.states.length ≤ 4) : PSpec Tryz.prog 34 [.agg (encP p)] (clsR p) := by
 have hle := bigP_le hp
 refine PSpec.intro tt_ok mx_ok Tryz.func34 rfl (by decide) ?_; (conv => whnf)
 refine boxP rfl ?_
 conv => whnf
 (refine oP (validateR p (okP_of hp)) ?_; conv => whnf)
 refine fI ?_
 conv => whnf
 repeat' ((first|refine nI ?_|refine aI ?_|refine tI ?_|refine fI ?_|fail);conv => whnf)
 refine WPc.loopF tt_ok mx_ok (fun z : Nat × Bool × Bool => z.1 ≤ p.rules.length ∧ (z.2.2 = true → cov0 p ∧ ∀ j, j < z.1 → (p.rules.getD j rul0).forall_.length = 0)) (fun z => [(8, .int .i64 (z.1 : Int))]) (fun z => [(2, .box 56 [.bool false, .bool false, .bool false, .bool false, .bool false]), (7, .box 56 [.bool z.2.1, .bool z.2.2, .bool false, .bool false, .bool true])]) (fun z => p.rules.length - z.1) (0, true, true) ⟨Nat.zero_le _, fun e => by first | (cases e; done) | exact ⟨⟨by omega, by omega, by omega, by omega⟩, fun j hj => by dsimp only at hj; omega⟩⟩ ?_; conv => whnf
 refine ⟨sI, ?_⟩
 rintro ⟨k, a, b⟩ ⟨hk, hb⟩
 dsimp only at hk hb ⊢
 conv => whnf
 refine cmpI ?_ ?_ <;> (intro h1; conv => whnf)
 case refine_2 => exact ⟨⟨a, b, _, _, _, rfl, fun eb => ⟨(hb eb).1, fun j hj => (hb eb).2 j (by omega)⟩⟩, rfl⟩
 refine nI ?_
 rw [tN]
 have nx : (p.rules.getD k rul0).forall_.length = 0 → (b = true → cov0 p ∧ ∀ j, j < k + 1 → (p.rules.getD j rul0).forall_.length = 0) := fun h0 eb => ⟨(hb eb).1, fun j hj => by
  by_cases e : j = k
  ·subst e; exact h0
  ·exact (hb eb).2 j (by omega)⟩
 generalize p.rules.getD k rul0 = r at nx
 conv => whnf
 by_cases q1 : r.kind = 1 ∧ r.src < r.dst ∧ r.some_.length = 0 ∧ r.forall_.length = 0
 ·repeat' ((first|refine nI ?_|refine aI ?_|refine tI ?_|refine fI ?_|fail);conv => whnf)
  exact ⟨(k + 1, a, b), sI, ⟨by dsimp only; omega, nx (by omega)⟩, by dsimp only; omega⟩
 by_cases q2 : r.forall_.length = 0
 ·repeat' ((first|refine nI ?_|refine aI ?_|refine arU trivial (by omega) ?_|refine arB trivial (by omega) ?_|refine dI ?_|refine dR ?_|refine dP ?_|refine boxP rfl ?_|refine pI _ rfl ?_|refine rowSetI _ rfl ?_|refine tI ?_|refine fI ?_|refine cmpI (fun _ => ?_) (fun _ => ?_)) <;> conv => whnf)
  all_goals exact ⟨(k + 1, false, b), sI, ⟨by dsimp only; omega, nx (by omega)⟩, by dsimp only; omega⟩
 ·repeat' ((first|refine nI ?_|refine aI ?_|refine arU trivial (by omega) ?_|refine arB trivial (by omega) ?_|refine dI ?_|refine dR ?_|refine dP ?_|refine boxP rfl ?_|refine pI _ rfl ?_|refine rowSetI _ rfl ?_|refine tI ?_|refine fI ?_|refine cmpI (fun _ => ?_) (fun _ => ?_)) <;> conv => whnf)
  all_goals exact ⟨(k + 1, false, false), sI, ⟨by dsimp only; omega, fun eb => by cases eb⟩, by dsimp only; omega⟩
theorem classify1 (p : Pro) (hp : ¬ bigP p) (hv : validE p = 0) (h0 : p.topology = 1 ∧ p.fault = 0 ∧ p.messages.length = 0 ∧ p.resilience.length = 0 ∧ p.values.length = 0 ∧ ¬ p.states.length ≤ 4) : PSpec Tryz.prog 34 [.agg (encP p)] (clsR p) := by
 have hle := bigP_le hp
 refine PSpec.intro tt_ok mx_ok Tryz.func34 rfl (by decide) ?_; (conv => whnf)
 refine boxP rfl ?_
 conv => whnf
 (refine oP (validateR p (okP_of hp)) ?_; conv => whnf)
 refine fI ?_
 conv => whnf
 repeat' ((first|refine nI ?_|refine aI ?_|refine tI ?_|refine fI ?_|fail);conv => whnf)
 refine WPc.loopF tt_ok mx_ok (fun z : Nat × Bool × Bool => z.1 ≤ p.rules.length ∧ (z.2.2 = true → cov0 p ∧ ∀ j, j < z.1 → (p.rules.getD j rul0).forall_.length = 0)) (fun z => [(8, .int .i64 (z.1 : Int))]) (fun z => [(2, .box 56 [.bool false, .bool false, .bool false, .bool false, .bool false]), (7, .box 56 [.bool z.2.1, .bool z.2.2, .bool false, .bool false, .bool false])]) (fun z => p.rules.length - z.1) (0, true, true) ⟨Nat.zero_le _, fun e => by first | (cases e; done) | exact ⟨⟨by omega, by omega, by omega, by omega⟩, fun j hj => by dsimp only at hj; omega⟩⟩ ?_; conv => whnf
 refine ⟨sI, ?_⟩
 rintro ⟨k, a, b⟩ ⟨hk, hb⟩
 dsimp only at hk hb ⊢
 conv => whnf
 refine cmpI ?_ ?_ <;> (intro h1; conv => whnf)
 case refine_2 => exact ⟨⟨a, b, _, _, _, rfl, fun eb => ⟨(hb eb).1, fun j hj => (hb eb).2 j (by omega)⟩⟩, rfl⟩
 refine nI ?_
 rw [tN]
 have nx : (p.rules.getD k rul0).forall_.length = 0 → (b = true → cov0 p ∧ ∀ j, j < k + 1 → (p.rules.getD j rul0).forall_.length = 0) := fun h0 eb => ⟨(hb eb).1, fun j hj => by
  by_cases e : j = k
  ·subst e; exact h0
  ·exact (hb eb).2 j (by omega)⟩
 generalize p.rules.getD k rul0 = r at nx
 conv => whnf
 by_cases q1 : r.kind = 1 ∧ r.src < r.dst ∧ r.some_.length = 0 ∧ r.forall_.length = 0
 ·repeat' ((first|refine nI ?_|refine aI ?_|refine tI ?_|refine fI ?_|fail);conv => whnf)
  exact ⟨(k + 1, a, b), sI, ⟨by dsimp only; omega, nx (by omega)⟩, by dsimp only; omega⟩
 by_cases q2 : r.forall_.length = 0
 ·repeat' ((first|refine nI ?_|refine aI ?_|refine arU trivial (by omega) ?_|refine arB trivial (by omega) ?_|refine dI ?_|refine dR ?_|refine dP ?_|refine boxP rfl ?_|refine pI _ rfl ?_|refine rowSetI _ rfl ?_|refine tI ?_|refine fI ?_|refine cmpI (fun _ => ?_) (fun _ => ?_)) <;> conv => whnf)
  all_goals exact ⟨(k + 1, false, b), sI, ⟨by dsimp only; omega, nx (by omega)⟩, by dsimp only; omega⟩
 ·repeat' ((first|refine nI ?_|refine aI ?_|refine arU trivial (by omega) ?_|refine arB trivial (by omega) ?_|refine dI ?_|refine dR ?_|refine dP ?_|refine boxP rfl ?_|refine pI _ rfl ?_|refine rowSetI _ rfl ?_|refine tI ?_|refine fI ?_|refine cmpI (fun _ => ?_) (fun _ => ?_)) <;> conv => whnf)
  all_goals exact ⟨(k + 1, false, false), sI, ⟨by dsimp only; omega, fun eb => by cases eb⟩, by dsimp only; omega⟩
theorem classify2 (p : Pro) (hp : ¬ bigP p) (hv : validE p = 0) (h0 : p.topology = 1 ∧ ¬ p.fault = 0 ∧ p.values.length = 0) : PSpec Tryz.prog 34 [.agg (encP p)] (clsR p) := by
 have hle := bigP_le hp
 refine PSpec.intro tt_ok mx_ok Tryz.func34 rfl (by decide) ?_; (conv => whnf)
 refine boxP rfl ?_
 conv => whnf
 (refine oP (validateR p (okP_of hp)) ?_; conv => whnf)
 refine fI ?_
 conv => whnf
 repeat' ((first|refine nI ?_|refine aI ?_|refine tI ?_|refine fI ?_|fail);conv => whnf)
 refine WPc.loopF tt_ok mx_ok (fun z : Nat × Bool × Bool => z.1 ≤ p.rules.length ∧ (z.2.2 = true → cov0 p ∧ ∀ j, j < z.1 → (p.rules.getD j rul0).forall_.length = 0)) (fun z => [(8, .int .i64 (z.1 : Int))]) (fun z => [(2, .box 56 [.bool false, .bool false, .bool false, .bool false, .bool false]), (7, .box 56 [.bool z.2.1, .bool z.2.2, .bool false, .bool false, .bool false])]) (fun z => p.rules.length - z.1) (0, true, false) ⟨Nat.zero_le _, fun e => by first | (cases e; done) | exact ⟨⟨by omega, by omega, by omega, by omega⟩, fun j hj => by dsimp only at hj; omega⟩⟩ ?_; conv => whnf
 refine ⟨sI, ?_⟩
 rintro ⟨k, a, b⟩ ⟨hk, hb⟩
 dsimp only at hk hb ⊢
 conv => whnf
 refine cmpI ?_ ?_ <;> (intro h1; conv => whnf)
 case refine_2 => exact ⟨⟨a, b, _, _, _, rfl, fun eb => ⟨(hb eb).1, fun j hj => (hb eb).2 j (by omega)⟩⟩, rfl⟩
 refine nI ?_
 rw [tN]
 have nx : (p.rules.getD k rul0).forall_.length = 0 → (b = true → cov0 p ∧ ∀ j, j < k + 1 → (p.rules.getD j rul0).forall_.length = 0) := fun h0 eb => ⟨(hb eb).1, fun j hj => by
  by_cases e : j = k
  ·subst e; exact h0
  ·exact (hb eb).2 j (by omega)⟩
 generalize p.rules.getD k rul0 = r at nx
 conv => whnf
 by_cases q1 : r.kind = 1 ∧ r.src < r.dst ∧ r.some_.length = 0 ∧ r.forall_.length = 0
 ·repeat' ((first|refine nI ?_|refine aI ?_|refine tI ?_|refine fI ?_|fail);conv => whnf)
  exact ⟨(k + 1, a, b), sI, ⟨by dsimp only; omega, nx (by omega)⟩, by dsimp only; omega⟩
 by_cases q2 : r.forall_.length = 0
 ·repeat' ((first|refine nI ?_|refine aI ?_|refine arU trivial (by omega) ?_|refine arB trivial (by omega) ?_|refine dI ?_|refine dR ?_|refine dP ?_|refine boxP rfl ?_|refine pI _ rfl ?_|refine rowSetI _ rfl ?_|refine tI ?_|refine fI ?_|refine cmpI (fun _ => ?_) (fun _ => ?_)) <;> conv => whnf)
  all_goals exact ⟨(k + 1, false, b), sI, ⟨by dsimp only; omega, nx (by omega)⟩, by dsimp only; omega⟩
 ·repeat' ((first|refine nI ?_|refine aI ?_|refine arU trivial (by omega) ?_|refine arB trivial (by omega) ?_|refine dI ?_|refine dR ?_|refine dP ?_|refine boxP rfl ?_|refine pI _ rfl ?_|refine rowSetI _ rfl ?_|refine tI ?_|refine fI ?_|refine cmpI (fun _ => ?_) (fun _ => ?_)) <;> conv => whnf)
  all_goals exact ⟨(k + 1, false, false), sI, ⟨by dsimp only; omega, fun eb => by cases eb⟩, by dsimp only; omega⟩
theorem classify3 (p : Pro) (hp : ¬ bigP p) (hv : validE p = 0) (h0 : p.topology = 1 ∧ p.fault = 0 ∧ ¬ p.messages.length = 0 ∧ p.values.length = 0) : PSpec Tryz.prog 34 [.agg (encP p)] (clsR p) := by
 have hle := bigP_le hp
 refine PSpec.intro tt_ok mx_ok Tryz.func34 rfl (by decide) ?_; (conv => whnf)
 refine boxP rfl ?_
 conv => whnf
 (refine oP (validateR p (okP_of hp)) ?_; conv => whnf)
 refine fI ?_
 conv => whnf
 repeat' ((first|refine nI ?_|refine aI ?_|refine tI ?_|refine fI ?_|fail);conv => whnf)
 refine WPc.loopF tt_ok mx_ok (fun z : Nat × Bool × Bool => z.1 ≤ p.rules.length ∧ (z.2.2 = true → cov0 p ∧ ∀ j, j < z.1 → (p.rules.getD j rul0).forall_.length = 0)) (fun z => [(8, .int .i64 (z.1 : Int))]) (fun z => [(2, .box 56 [.bool false, .bool false, .bool false, .bool false, .bool false]), (7, .box 56 [.bool z.2.1, .bool z.2.2, .bool false, .bool false, .bool false])]) (fun z => p.rules.length - z.1) (0, true, false) ⟨Nat.zero_le _, fun e => by first | (cases e; done) | exact ⟨⟨by omega, by omega, by omega, by omega⟩, fun j hj => by dsimp only at hj; omega⟩⟩ ?_; conv => whnf
 refine ⟨sI, ?_⟩
 rintro ⟨k, a, b⟩ ⟨hk, hb⟩
 dsimp only at hk hb ⊢
 conv => whnf
 refine cmpI ?_ ?_ <;> (intro h1; conv => whnf)
 case refine_2 => exact ⟨⟨a, b, _, _, _, rfl, fun eb => ⟨(hb eb).1, fun j hj => (hb eb).2 j (by omega)⟩⟩, rfl⟩
 refine nI ?_
 rw [tN]
 have nx : (p.rules.getD k rul0).forall_.length = 0 → (b = true → cov0 p ∧ ∀ j, j < k + 1 → (p.rules.getD j rul0).forall_.length = 0) := fun h0 eb => ⟨(hb eb).1, fun j hj => by
  by_cases e : j = k
  ·subst e; exact h0
  ·exact (hb eb).2 j (by omega)⟩
 generalize p.rules.getD k rul0 = r at nx
 conv => whnf
 by_cases q1 : r.kind = 1 ∧ r.src < r.dst ∧ r.some_.length = 0 ∧ r.forall_.length = 0
 ·repeat' ((first|refine nI ?_|refine aI ?_|refine tI ?_|refine fI ?_|fail);conv => whnf)
  exact ⟨(k + 1, a, b), sI, ⟨by dsimp only; omega, nx (by omega)⟩, by dsimp only; omega⟩
 by_cases q2 : r.forall_.length = 0
 ·repeat' ((first|refine nI ?_|refine aI ?_|refine arU trivial (by omega) ?_|refine arB trivial (by omega) ?_|refine dI ?_|refine dR ?_|refine dP ?_|refine boxP rfl ?_|refine pI _ rfl ?_|refine rowSetI _ rfl ?_|refine tI ?_|refine fI ?_|refine cmpI (fun _ => ?_) (fun _ => ?_)) <;> conv => whnf)
  all_goals exact ⟨(k + 1, false, b), sI, ⟨by dsimp only; omega, nx (by omega)⟩, by dsimp only; omega⟩
 ·repeat' ((first|refine nI ?_|refine aI ?_|refine arU trivial (by omega) ?_|refine arB trivial (by omega) ?_|refine dI ?_|refine dR ?_|refine dP ?_|refine boxP rfl ?_|refine pI _ rfl ?_|refine rowSetI _ rfl ?_|refine tI ?_|refine fI ?_|refine cmpI (fun _ => ?_) (fun _ => ?_)) <;> conv => whnf)
  all_goals exact ⟨(k + 1, false, false), sI, ⟨by dsimp only; omega, fun eb => by cases eb⟩, by dsimp only; omega⟩
theorem classify4 (p : Pro) (hp : ¬ bigP p) (hv : validE p = 0) (h0 : p.topology = 1 ∧ p.fault = 0 ∧ p.messages.length = 0 ∧ ¬ p.resilience.length = 0 ∧ p.values.length = 0) : PSpec Tryz.prog 34 [.agg (encP p)] (clsR p) := by
 have hle := bigP_le hp
 refine PSpec.intro tt_ok mx_ok Tryz.func34 rfl (by decide) ?_; (conv => whnf)
 refine boxP rfl ?_
 conv => whnf
 (refine oP (validateR p (okP_of hp)) ?_; conv => whnf)
 refine fI ?_
 conv => whnf
 repeat' ((first|refine nI ?_|refine aI ?_|refine tI ?_|refine fI ?_|fail);conv => whnf)
 refine WPc.loopF tt_ok mx_ok (fun z : Nat × Bool × Bool => z.1 ≤ p.rules.length ∧ (z.2.2 = true → cov0 p ∧ ∀ j, j < z.1 → (p.rules.getD j rul0).forall_.length = 0)) (fun z => [(8, .int .i64 (z.1 : Int))]) (fun z => [(2, .box 56 [.bool false, .bool false, .bool false, .bool false, .bool false]), (7, .box 56 [.bool z.2.1, .bool z.2.2, .bool false, .bool false, .bool false])]) (fun z => p.rules.length - z.1) (0, true, false) ⟨Nat.zero_le _, fun e => by first | (cases e; done) | exact ⟨⟨by omega, by omega, by omega, by omega⟩, fun j hj => by dsimp only at hj; omega⟩⟩ ?_; conv => whnf
 refine ⟨sI, ?_⟩
 rintro ⟨k, a, b⟩ ⟨hk, hb⟩
 dsimp only at hk hb ⊢
 conv => whnf
 refine cmpI ?_ ?_ <;> (intro h1; conv => whnf)
 case refine_2 => exact ⟨⟨a, b, _, _, _, rfl, fun eb => ⟨(hb eb).1, fun j hj => (hb eb).2 j (by omega)⟩⟩, rfl⟩
 refine nI ?_
 rw [tN]
 have nx : (p.rules.getD k rul0).forall_.length = 0 → (b = true → cov0 p ∧ ∀ j, j < k + 1 → (p.rules.getD j rul0).forall_.length = 0) := fun h0 eb => ⟨(hb eb).1, fun j hj => by
  by_cases e : j = k
  ·subst e; exact h0
  ·exact (hb eb).2 j (by omega)⟩
 generalize p.rules.getD k rul0 = r at nx
 conv => whnf
 by_cases q1 : r.kind = 1 ∧ r.src < r.dst ∧ r.some_.length = 0 ∧ r.forall_.length = 0
 ·repeat' ((first|refine nI ?_|refine aI ?_|refine tI ?_|refine fI ?_|fail);conv => whnf)
  exact ⟨(k + 1, a, b), sI, ⟨by dsimp only; omega, nx (by omega)⟩, by dsimp only; omega⟩
 by_cases q2 : r.forall_.length = 0
 ·repeat' ((first|refine nI ?_|refine aI ?_|refine arU trivial (by omega) ?_|refine arB trivial (by omega) ?_|refine dI ?_|refine dR ?_|refine dP ?_|refine boxP rfl ?_|refine pI _ rfl ?_|refine rowSetI _ rfl ?_|refine tI ?_|refine fI ?_|refine cmpI (fun _ => ?_) (fun _ => ?_)) <;> conv => whnf)
  all_goals exact ⟨(k + 1, false, b), sI, ⟨by dsimp only; omega, nx (by omega)⟩, by dsimp only; omega⟩
 ·repeat' ((first|refine nI ?_|refine aI ?_|refine arU trivial (by omega) ?_|refine arB trivial (by omega) ?_|refine dI ?_|refine dR ?_|refine dP ?_|refine boxP rfl ?_|refine pI _ rfl ?_|refine rowSetI _ rfl ?_|refine tI ?_|refine fI ?_|refine cmpI (fun _ => ?_) (fun _ => ?_)) <;> conv => whnf)
  all_goals exact ⟨(k + 1, false, false), sI, ⟨by dsimp only; omega, fun eb => by cases eb⟩, by dsimp only; omega⟩
theorem classify5 (p : Pro) (hp : ¬ bigP p) (hv : validE p = 0) (h0 : p.topology = 1 ∧ p.fault = 0 ∧ p.messages.length = 0 ∧ p.resilience.length = 0 ∧ ¬ p.values.length = 0 ∧ p.states.length ≤ 4) : PSpec Tryz.prog 34 [.agg (encP p)] (clsR p) := by
 have hle := bigP_le hp
 refine PSpec.intro tt_ok mx_ok Tryz.func34 rfl (by decide) ?_; (conv => whnf)
 refine boxP rfl ?_
 conv => whnf
 (refine oP (validateR p (okP_of hp)) ?_; conv => whnf)
 refine fI ?_
 conv => whnf
 repeat' ((first|refine nI ?_|refine aI ?_|refine tI ?_|refine fI ?_|fail);conv => whnf)
 refine WPc.loopF tt_ok mx_ok (fun z : Nat × Bool × Bool => z.1 ≤ p.rules.length ∧ (z.2.2 = true → cov0 p ∧ ∀ j, j < z.1 → (p.rules.getD j rul0).forall_.length = 0)) (fun z => [(8, .int .i64 (z.1 : Int))]) (fun z => [(2, .box 56 [.bool false, .bool false, .bool false, .bool false, .bool false]), (7, .box 56 [.bool z.2.1, .bool z.2.2, .bool false, .bool false, .bool true])]) (fun z => p.rules.length - z.1) (0, false, true) ⟨Nat.zero_le _, fun e => by first | (cases e; done) | exact ⟨⟨by omega, by omega, by omega, by omega⟩, fun j hj => by dsimp only at hj; omega⟩⟩ ?_; conv => whnf
 refine ⟨sI, ?_⟩
 rintro ⟨k, a, b⟩ ⟨hk, hb⟩
 dsimp only at hk hb ⊢
 conv => whnf
 refine cmpI ?_ ?_ <;> (intro h1; conv => whnf)
 case refine_2 => exact ⟨⟨a, b, _, _, _, rfl, fun eb => ⟨(hb eb).1, fun j hj => (hb eb).2 j (by omega)⟩⟩, rfl⟩
 refine nI ?_
 rw [tN]
 have nx : (p.rules.getD k rul0).forall_.length = 0 → (b = true → cov0 p ∧ ∀ j, j < k + 1 → (p.rules.getD j rul0).forall_.length = 0) := fun h0 eb => ⟨(hb eb).1, fun j hj => by
  by_cases e : j = k
  ·subst e; exact h0
  ·exact (hb eb).2 j (by omega)⟩
 generalize p.rules.getD k rul0 = r at nx
 conv => whnf
 by_cases q1 : r.kind = 1 ∧ r.src < r.dst ∧ r.some_.length = 0 ∧ r.forall_.length = 0
 ·repeat' ((first|refine nI ?_|refine aI ?_|refine tI ?_|refine fI ?_|fail);conv => whnf)
  exact ⟨(k + 1, a, b), sI, ⟨by dsimp only; omega, nx (by omega)⟩, by dsimp only; omega⟩
 by_cases q2 : r.forall_.length = 0
 ·repeat' ((first|refine nI ?_|refine aI ?_|refine arU trivial (by omega) ?_|refine arB trivial (by omega) ?_|refine dI ?_|refine dR ?_|refine dP ?_|refine boxP rfl ?_|refine pI _ rfl ?_|refine rowSetI _ rfl ?_|refine tI ?_|refine fI ?_|refine cmpI (fun _ => ?_) (fun _ => ?_)) <;> conv => whnf)
  all_goals exact ⟨(k + 1, false, b), sI, ⟨by dsimp only; omega, nx (by omega)⟩, by dsimp only; omega⟩
 ·repeat' ((first|refine nI ?_|refine aI ?_|refine arU trivial (by omega) ?_|refine arB trivial (by omega) ?_|refine dI ?_|refine dR ?_|refine dP ?_|refine boxP rfl ?_|refine pI _ rfl ?_|refine rowSetI _ rfl ?_|refine tI ?_|refine fI ?_|refine cmpI (fun _ => ?_) (fun _ => ?_)) <;> conv => whnf)
  all_goals exact ⟨(k + 1, false, false), sI, ⟨by dsimp only; omega, fun eb => by cases eb⟩, by dsimp only; omega⟩
theorem classify6 (p : Pro) (hp : ¬ bigP p) (hv : validE p = 0) (h0 : p.topology = 1 ∧ p.fault = 0 ∧ p.messages.length = 0 ∧ p.resilience.length = 0 ∧ ¬ p.values.length = 0 ∧ ¬ p.states.length ≤ 4) : PSpec Tryz.prog 34 [.agg (encP p)] (clsR p) := by
 have hle := bigP_le hp
 refine PSpec.intro tt_ok mx_ok Tryz.func34 rfl (by decide) ?_; (conv => whnf)
 refine boxP rfl ?_
 conv => whnf
 (refine oP (validateR p (okP_of hp)) ?_; conv => whnf)
 refine fI ?_
 conv => whnf
 repeat' ((first|refine nI ?_|refine aI ?_|refine tI ?_|refine fI ?_|fail);conv => whnf)
 refine WPc.loopF tt_ok mx_ok (fun z : Nat × Bool × Bool => z.1 ≤ p.rules.length ∧ (z.2.2 = true → cov0 p ∧ ∀ j, j < z.1 → (p.rules.getD j rul0).forall_.length = 0)) (fun z => [(8, .int .i64 (z.1 : Int))]) (fun z => [(2, .box 56 [.bool false, .bool false, .bool false, .bool false, .bool false]), (7, .box 56 [.bool z.2.1, .bool z.2.2, .bool false, .bool false, .bool false])]) (fun z => p.rules.length - z.1) (0, false, true) ⟨Nat.zero_le _, fun e => by first | (cases e; done) | exact ⟨⟨by omega, by omega, by omega, by omega⟩, fun j hj => by dsimp only at hj; omega⟩⟩ ?_; conv => whnf
 refine ⟨sI, ?_⟩
 rintro ⟨k, a, b⟩ ⟨hk, hb⟩
 dsimp only at hk hb ⊢
 conv => whnf
 refine cmpI ?_ ?_ <;> (intro h1; conv => whnf)
 case refine_2 => exact ⟨⟨a, b, _, _, _, rfl, fun eb => ⟨(hb eb).1, fun j hj => (hb eb).2 j (by omega)⟩⟩, rfl⟩
 refine nI ?_
 rw [tN]
 have nx : (p.rules.getD k rul0).forall_.length = 0 → (b = true → cov0 p ∧ ∀ j, j < k + 1 → (p.rules.getD j rul0).forall_.length = 0) := fun h0 eb => ⟨(hb eb).1, fun j hj => by
  by_cases e : j = k
  ·subst e; exact h0
  ·exact (hb eb).2 j (by omega)⟩
 generalize p.rules.getD k rul0 = r at nx
 conv => whnf
 by_cases q1 : r.kind = 1 ∧ r.src < r.dst ∧ r.some_.length = 0 ∧ r.forall_.length = 0
 ·repeat' ((first|refine nI ?_|refine aI ?_|refine tI ?_|refine fI ?_|fail);conv => whnf)
  exact ⟨(k + 1, a, b), sI, ⟨by dsimp only; omega, nx (by omega)⟩, by dsimp only; omega⟩
 by_cases q2 : r.forall_.length = 0
 ·repeat' ((first|refine nI ?_|refine aI ?_|refine arU trivial (by omega) ?_|refine arB trivial (by omega) ?_|refine dI ?_|refine dR ?_|refine dP ?_|refine boxP rfl ?_|refine pI _ rfl ?_|refine rowSetI _ rfl ?_|refine tI ?_|refine fI ?_|refine cmpI (fun _ => ?_) (fun _ => ?_)) <;> conv => whnf)
  all_goals exact ⟨(k + 1, false, b), sI, ⟨by dsimp only; omega, nx (by omega)⟩, by dsimp only; omega⟩
 ·repeat' ((first|refine nI ?_|refine aI ?_|refine arU trivial (by omega) ?_|refine arB trivial (by omega) ?_|refine dI ?_|refine dR ?_|refine dP ?_|refine boxP rfl ?_|refine pI _ rfl ?_|refine rowSetI _ rfl ?_|refine tI ?_|refine fI ?_|refine cmpI (fun _ => ?_) (fun _ => ?_)) <;> conv => whnf)
  all_goals exact ⟨(k + 1, false, false), sI, ⟨by dsimp only; omega, fun eb => by cases eb⟩, by dsimp only; omega⟩
theorem classify7 (p : Pro) (hp : ¬ bigP p) (hv : validE p = 0) (h0 : p.topology = 1 ∧ ¬ p.fault = 0 ∧ ¬ p.values.length = 0) : PSpec Tryz.prog 34 [.agg (encP p)] (clsR p) := by
 have hle := bigP_le hp
 refine PSpec.intro tt_ok mx_ok Tryz.func34 rfl (by decide) ?_; (conv => whnf)
 refine boxP rfl ?_
 conv => whnf
 (refine oP (validateR p (okP_of hp)) ?_; conv => whnf)
 refine fI ?_
 conv => whnf
 repeat' ((first|refine nI ?_|refine aI ?_|refine tI ?_|refine fI ?_|fail);conv => whnf)
 refine WPc.loopF tt_ok mx_ok (fun z : Nat × Bool × Bool => z.1 ≤ p.rules.length ∧ (z.2.2 = true → cov0 p ∧ ∀ j, j < z.1 → (p.rules.getD j rul0).forall_.length = 0)) (fun z => [(8, .int .i64 (z.1 : Int))]) (fun z => [(2, .box 56 [.bool false, .bool false, .bool false, .bool false, .bool false]), (7, .box 56 [.bool z.2.1, .bool z.2.2, .bool false, .bool false, .bool false])]) (fun z => p.rules.length - z.1) (0, false, false) ⟨Nat.zero_le _, fun e => by first | (cases e; done) | exact ⟨⟨by omega, by omega, by omega, by omega⟩, fun j hj => by dsimp only at hj; omega⟩⟩ ?_; conv => whnf
 refine ⟨sI, ?_⟩
 rintro ⟨k, a, b⟩ ⟨hk, hb⟩
 dsimp only at hk hb ⊢
 conv => whnf
 refine cmpI ?_ ?_ <;> (intro h1; conv => whnf)
 case refine_2 => exact ⟨⟨a, b, _, _, _, rfl, fun eb => ⟨(hb eb).1, fun j hj => (hb eb).2 j (by omega)⟩⟩, rfl⟩
 refine nI ?_
 rw [tN]
 have nx : (p.rules.getD k rul0).forall_.length = 0 → (b = true → cov0 p ∧ ∀ j, j < k + 1 → (p.rules.getD j rul0).forall_.length = 0) := fun h0 eb => ⟨(hb eb).1, fun j hj => by
  by_cases e : j = k
  ·subst e; exact h0
  ·exact (hb eb).2 j (by omega)⟩
 generalize p.rules.getD k rul0 = r at nx
 conv => whnf
 by_cases q1 : r.kind = 1 ∧ r.src < r.dst ∧ r.some_.length = 0 ∧ r.forall_.length = 0
 ·repeat' ((first|refine nI ?_|refine aI ?_|refine tI ?_|refine fI ?_|fail);conv => whnf)
  exact ⟨(k + 1, a, b), sI, ⟨by dsimp only; omega, nx (by omega)⟩, by dsimp only; omega⟩
 by_cases q2 : r.forall_.length = 0
 ·repeat' ((first|refine nI ?_|refine aI ?_|refine arU trivial (by omega) ?_|refine arB trivial (by omega) ?_|refine dI ?_|refine dR ?_|refine dP ?_|refine boxP rfl ?_|refine pI _ rfl ?_|refine rowSetI _ rfl ?_|refine tI ?_|refine fI ?_|refine cmpI (fun _ => ?_) (fun _ => ?_)) <;> conv => whnf)
  all_goals exact ⟨(k + 1, false, b), sI, ⟨by dsimp only; omega, nx (by omega)⟩, by dsimp only; omega⟩
 ·repeat' ((first|refine nI ?_|refine aI ?_|refine arU trivial (by omega) ?_|refine arB trivial (by omega) ?_|refine dI ?_|refine dR ?_|refine dP ?_|refine boxP rfl ?_|refine pI _ rfl ?_|refine rowSetI _ rfl ?_|refine tI ?_|refine fI ?_|refine cmpI (fun _ => ?_) (fun _ => ?_)) <;> conv => whnf)
  all_goals exact ⟨(k + 1, false, false), sI, ⟨by dsimp only; omega, fun eb => by cases eb⟩, by dsimp only; omega⟩
theorem classify8 (p : Pro) (hp : ¬ bigP p) (hv : validE p = 0) (h0 : p.topology = 1 ∧ p.fault = 0 ∧ ¬ p.messages.length = 0 ∧ ¬ p.values.length = 0) : PSpec Tryz.prog 34 [.agg (encP p)] (clsR p) := by
 have hle := bigP_le hp
 refine PSpec.intro tt_ok mx_ok Tryz.func34 rfl (by decide) ?_; (conv => whnf)
 refine boxP rfl ?_
 conv => whnf
 (refine oP (validateR p (okP_of hp)) ?_; conv => whnf)
 refine fI ?_
 conv => whnf
 repeat' ((first|refine nI ?_|refine aI ?_|refine tI ?_|refine fI ?_|fail);conv => whnf)
 refine WPc.loopF tt_ok mx_ok (fun z : Nat × Bool × Bool => z.1 ≤ p.rules.length ∧ (z.2.2 = true → cov0 p ∧ ∀ j, j < z.1 → (p.rules.getD j rul0).forall_.length = 0)) (fun z => [(8, .int .i64 (z.1 : Int))]) (fun z => [(2, .box 56 [.bool false, .bool false, .bool false, .bool false, .bool false]), (7, .box 56 [.bool z.2.1, .bool z.2.2, .bool false, .bool false, .bool false])]) (fun z => p.rules.length - z.1) (0, false, false) ⟨Nat.zero_le _, fun e => by first | (cases e; done) | exact ⟨⟨by omega, by omega, by omega, by omega⟩, fun j hj => by dsimp only at hj; omega⟩⟩ ?_; conv => whnf
 refine ⟨sI, ?_⟩
 rintro ⟨k, a, b⟩ ⟨hk, hb⟩
 dsimp only at hk hb ⊢
 conv => whnf
 refine cmpI ?_ ?_ <;> (intro h1; conv => whnf)
 case refine_2 => exact ⟨⟨a, b, _, _, _, rfl, fun eb => ⟨(hb eb).1, fun j hj => (hb eb).2 j (by omega)⟩⟩, rfl⟩
 refine nI ?_
 rw [tN]
 have nx : (p.rules.getD k rul0).forall_.length = 0 → (b = true → cov0 p ∧ ∀ j, j < k + 1 → (p.rules.getD j rul0).forall_.length = 0) := fun h0 eb => ⟨(hb eb).1, fun j hj => by
  by_cases e : j = k
  ·subst e; exact h0
  ·exact (hb eb).2 j (by omega)⟩
 generalize p.rules.getD k rul0 = r at nx
 conv => whnf
 by_cases q1 : r.kind = 1 ∧ r.src < r.dst ∧ r.some_.length = 0 ∧ r.forall_.length = 0
 ·repeat' ((first|refine nI ?_|refine aI ?_|refine tI ?_|refine fI ?_|fail);conv => whnf)
  exact ⟨(k + 1, a, b), sI, ⟨by dsimp only; omega, nx (by omega)⟩, by dsimp only; omega⟩
 by_cases q2 : r.forall_.length = 0
 ·repeat' ((first|refine nI ?_|refine aI ?_|refine arU trivial (by omega) ?_|refine arB trivial (by omega) ?_|refine dI ?_|refine dR ?_|refine dP ?_|refine boxP rfl ?_|refine pI _ rfl ?_|refine rowSetI _ rfl ?_|refine tI ?_|refine fI ?_|refine cmpI (fun _ => ?_) (fun _ => ?_)) <;> conv => whnf)
  all_goals exact ⟨(k + 1, false, b), sI, ⟨by dsimp only; omega, nx (by omega)⟩, by dsimp only; omega⟩
 ·repeat' ((first|refine nI ?_|refine aI ?_|refine arU trivial (by omega) ?_|refine arB trivial (by omega) ?_|refine dI ?_|refine dR ?_|refine dP ?_|refine boxP rfl ?_|refine pI _ rfl ?_|refine rowSetI _ rfl ?_|refine tI ?_|refine fI ?_|refine cmpI (fun _ => ?_) (fun _ => ?_)) <;> conv => whnf)
  all_goals exact ⟨(k + 1, false, false), sI, ⟨by dsimp only; omega, fun eb => by cases eb⟩, by dsimp only; omega⟩
theorem classify9 (p : Pro) (hp : ¬ bigP p) (hv : validE p = 0) (h0 : p.topology = 1 ∧ p.fault = 0 ∧ p.messages.length = 0 ∧ ¬ p.resilience.length = 0 ∧ ¬ p.values.length = 0) : PSpec Tryz.prog 34 [.agg (encP p)] (clsR p) := by
 have hle := bigP_le hp
 refine PSpec.intro tt_ok mx_ok Tryz.func34 rfl (by decide) ?_; (conv => whnf)
 refine boxP rfl ?_
 conv => whnf
 (refine oP (validateR p (okP_of hp)) ?_; conv => whnf)
 refine fI ?_
 conv => whnf
 repeat' ((first|refine nI ?_|refine aI ?_|refine tI ?_|refine fI ?_|fail);conv => whnf)
 refine WPc.loopF tt_ok mx_ok (fun z : Nat × Bool × Bool => z.1 ≤ p.rules.length ∧ (z.2.2 = true → cov0 p ∧ ∀ j, j < z.1 → (p.rules.getD j rul0).forall_.length = 0)) (fun z => [(8, .int .i64 (z.1 : Int))]) (fun z => [(2, .box 56 [.bool false, .bool false, .bool false, .bool false, .bool false]), (7, .box 56 [.bool z.2.1, .bool z.2.2, .bool false, .bool false, .bool false])]) (fun z => p.rules.length - z.1) (0, false, false) ⟨Nat.zero_le _, fun e => by first | (cases e; done) | exact ⟨⟨by omega, by omega, by omega, by omega⟩, fun j hj => by dsimp only at hj; omega⟩⟩ ?_; conv => whnf
 refine ⟨sI, ?_⟩
 rintro ⟨k, a, b⟩ ⟨hk, hb⟩
 dsimp only at hk hb ⊢
 conv => whnf
 refine cmpI ?_ ?_ <;> (intro h1; conv => whnf)
 case refine_2 => exact ⟨⟨a, b, _, _, _, rfl, fun eb => ⟨(hb eb).1, fun j hj => (hb eb).2 j (by omega)⟩⟩, rfl⟩
 refine nI ?_
 rw [tN]
 have nx : (p.rules.getD k rul0).forall_.length = 0 → (b = true → cov0 p ∧ ∀ j, j < k + 1 → (p.rules.getD j rul0).forall_.length = 0) := fun h0 eb => ⟨(hb eb).1, fun j hj => by
  by_cases e : j = k
  ·subst e; exact h0
  ·exact (hb eb).2 j (by omega)⟩
 generalize p.rules.getD k rul0 = r at nx
 conv => whnf
 by_cases q1 : r.kind = 1 ∧ r.src < r.dst ∧ r.some_.length = 0 ∧ r.forall_.length = 0
 ·repeat' ((first|refine nI ?_|refine aI ?_|refine tI ?_|refine fI ?_|fail);conv => whnf)
  exact ⟨(k + 1, a, b), sI, ⟨by dsimp only; omega, nx (by omega)⟩, by dsimp only; omega⟩
 by_cases q2 : r.forall_.length = 0
 ·repeat' ((first|refine nI ?_|refine aI ?_|refine arU trivial (by omega) ?_|refine arB trivial (by omega) ?_|refine dI ?_|refine dR ?_|refine dP ?_|refine boxP rfl ?_|refine pI _ rfl ?_|refine rowSetI _ rfl ?_|refine tI ?_|refine fI ?_|refine cmpI (fun _ => ?_) (fun _ => ?_)) <;> conv => whnf)
  all_goals exact ⟨(k + 1, false, b), sI, ⟨by dsimp only; omega, nx (by omega)⟩, by dsimp only; omega⟩
 ·repeat' ((first|refine nI ?_|refine aI ?_|refine arU trivial (by omega) ?_|refine arB trivial (by omega) ?_|refine dI ?_|refine dR ?_|refine dP ?_|refine boxP rfl ?_|refine pI _ rfl ?_|refine rowSetI _ rfl ?_|refine tI ?_|refine fI ?_|refine cmpI (fun _ => ?_) (fun _ => ?_)) <;> conv => whnf)
  all_goals exact ⟨(k + 1, false, false), sI, ⟨by dsimp only; omega, fun eb => by cases eb⟩, by dsimp only; omega⟩
theorem classify10 (p : Pro) (hp : ¬ bigP p) (hv : validE p = 0) (h0 : p.topology = 2) : PSpec Tryz.prog 34 [.agg (encP p)] (clsR p) := by
 have hle := bigP_le hp
 refine PSpec.intro tt_ok mx_ok Tryz.func34 rfl (by decide) ?_; (conv => whnf)
 refine boxP rfl ?_
 conv => whnf
 (refine oP (validateR p (okP_of hp)) ?_; conv => whnf)
 refine fI ?_
 conv => whnf
 repeat' ((first|refine nI ?_|refine aI ?_|refine tI ?_|refine fI ?_|fail);conv => whnf)
 refine WPc.loopF tt_ok mx_ok (fun z : Nat × Bool × Bool => z.1 ≤ p.rules.length ∧ (z.2.2 = true → cov0 p ∧ ∀ j, j < z.1 → (p.rules.getD j rul0).forall_.length = 0)) (fun z => [(8, .int .i64 (z.1 : Int))]) (fun z => [(2, .box 56 [.bool false, .bool false, .bool false, .bool false, .bool false]), (7, .box 56 [.bool z.2.1, .bool z.2.2, .bool true, .bool false, .bool false])]) (fun z => p.rules.length - z.1) (0, false, false) ⟨Nat.zero_le _, fun e => by first | (cases e; done) | exact ⟨⟨by omega, by omega, by omega, by omega⟩, fun j hj => by dsimp only at hj; omega⟩⟩ ?_; conv => whnf
 refine ⟨sI, ?_⟩
 rintro ⟨k, a, b⟩ ⟨hk, hb⟩
 dsimp only at hk hb ⊢
 conv => whnf
 refine cmpI ?_ ?_ <;> (intro h1; conv => whnf)
 case refine_2 => exact ⟨⟨a, b, _, _, _, rfl, fun eb => ⟨(hb eb).1, fun j hj => (hb eb).2 j (by omega)⟩⟩, rfl⟩
 refine nI ?_
 rw [tN]
 have nx : (p.rules.getD k rul0).forall_.length = 0 → (b = true → cov0 p ∧ ∀ j, j < k + 1 → (p.rules.getD j rul0).forall_.length = 0) := fun h0 eb => ⟨(hb eb).1, fun j hj => by
  by_cases e : j = k
  ·subst e; exact h0
  ·exact (hb eb).2 j (by omega)⟩
 generalize p.rules.getD k rul0 = r at nx
 conv => whnf
 by_cases q1 : r.kind = 1 ∧ r.src < r.dst ∧ r.some_.length = 0 ∧ r.forall_.length = 0
 ·repeat' ((first|refine nI ?_|refine aI ?_|refine tI ?_|refine fI ?_|fail);conv => whnf)
  exact ⟨(k + 1, a, b), sI, ⟨by dsimp only; omega, nx (by omega)⟩, by dsimp only; omega⟩
 by_cases q2 : r.forall_.length = 0
 ·repeat' ((first|refine nI ?_|refine aI ?_|refine arU trivial (by omega) ?_|refine arB trivial (by omega) ?_|refine dI ?_|refine dR ?_|refine dP ?_|refine boxP rfl ?_|refine pI _ rfl ?_|refine rowSetI _ rfl ?_|refine tI ?_|refine fI ?_|refine cmpI (fun _ => ?_) (fun _ => ?_)) <;> conv => whnf)
  all_goals exact ⟨(k + 1, false, b), sI, ⟨by dsimp only; omega, nx (by omega)⟩, by dsimp only; omega⟩
 ·repeat' ((first|refine nI ?_|refine aI ?_|refine arU trivial (by omega) ?_|refine arB trivial (by omega) ?_|refine dI ?_|refine dR ?_|refine dP ?_|refine boxP rfl ?_|refine pI _ rfl ?_|refine rowSetI _ rfl ?_|refine tI ?_|refine fI ?_|refine cmpI (fun _ => ?_) (fun _ => ?_)) <;> conv => whnf)
  all_goals exact ⟨(k + 1, false, false), sI, ⟨by dsimp only; omega, fun eb => by cases eb⟩, by dsimp only; omega⟩
theorem classify11 (p : Pro) (hp : ¬ bigP p) (hv : validE p = 0) (h0 : p.topology = 3) : PSpec Tryz.prog 34 [.agg (encP p)] (clsR p) := by
 have hle := bigP_le hp
 refine PSpec.intro tt_ok mx_ok Tryz.func34 rfl (by decide) ?_; (conv => whnf)
 refine boxP rfl ?_
 conv => whnf
 (refine oP (validateR p (okP_of hp)) ?_; conv => whnf)
 refine fI ?_
 conv => whnf
 repeat' ((first|refine nI ?_|refine aI ?_|refine tI ?_|refine fI ?_|fail);conv => whnf)
 refine WPc.loopF tt_ok mx_ok (fun z : Nat × Bool × Bool => z.1 ≤ p.rules.length ∧ (z.2.2 = true → cov0 p ∧ ∀ j, j < z.1 → (p.rules.getD j rul0).forall_.length = 0)) (fun z => [(8, .int .i64 (z.1 : Int))]) (fun z => [(2, .box 56 [.bool false, .bool false, .bool false, .bool false, .bool false]), (7, .box 56 [.bool z.2.1, .bool z.2.2, .bool true, .bool false, .bool false])]) (fun z => p.rules.length - z.1) (0, false, false) ⟨Nat.zero_le _, fun e => by first | (cases e; done) | exact ⟨⟨by omega, by omega, by omega, by omega⟩, fun j hj => by dsimp only at hj; omega⟩⟩ ?_; conv => whnf
 refine ⟨sI, ?_⟩
 rintro ⟨k, a, b⟩ ⟨hk, hb⟩
 dsimp only at hk hb ⊢
 conv => whnf
 refine cmpI ?_ ?_ <;> (intro h1; conv => whnf)
 case refine_2 => exact ⟨⟨a, b, _, _, _, rfl, fun eb => ⟨(hb eb).1, fun j hj => (hb eb).2 j (by omega)⟩⟩, rfl⟩
 refine nI ?_
 rw [tN]
 have nx : (p.rules.getD k rul0).forall_.length = 0 → (b = true → cov0 p ∧ ∀ j, j < k + 1 → (p.rules.getD j rul0).forall_.length = 0) := fun h0 eb => ⟨(hb eb).1, fun j hj => by
  by_cases e : j = k
  ·subst e; exact h0
  ·exact (hb eb).2 j (by omega)⟩
 generalize p.rules.getD k rul0 = r at nx
 conv => whnf
 by_cases q1 : r.kind = 1 ∧ r.src < r.dst ∧ r.some_.length = 0 ∧ r.forall_.length = 0
 ·repeat' ((first|refine nI ?_|refine aI ?_|refine tI ?_|refine fI ?_|fail);conv => whnf)
  exact ⟨(k + 1, a, b), sI, ⟨by dsimp only; omega, nx (by omega)⟩, by dsimp only; omega⟩
 by_cases q2 : r.forall_.length = 0
 ·repeat' ((first|refine nI ?_|refine aI ?_|refine arU trivial (by omega) ?_|refine arB trivial (by omega) ?_|refine dI ?_|refine dR ?_|refine dP ?_|refine boxP rfl ?_|refine pI _ rfl ?_|refine rowSetI _ rfl ?_|refine tI ?_|refine fI ?_|refine cmpI (fun _ => ?_) (fun _ => ?_)) <;> conv => whnf)
  all_goals exact ⟨(k + 1, false, b), sI, ⟨by dsimp only; omega, nx (by omega)⟩, by dsimp only; omega⟩
 ·repeat' ((first|refine nI ?_|refine aI ?_|refine arU trivial (by omega) ?_|refine arB trivial (by omega) ?_|refine dI ?_|refine dR ?_|refine dP ?_|refine boxP rfl ?_|refine pI _ rfl ?_|refine rowSetI _ rfl ?_|refine tI ?_|refine fI ?_|refine cmpI (fun _ => ?_) (fun _ => ?_)) <;> conv => whnf)
  all_goals exact ⟨(k + 1, false, false), sI, ⟨by dsimp only; omega, fun eb => by cases eb⟩, by dsimp only; omega⟩
theorem classify12 (p : Pro) (hp : ¬ bigP p) (hv : validE p = 0) (h0 : p.topology = 4) : PSpec Tryz.prog 34 [.agg (encP p)] (clsR p) := by
 have hle := bigP_le hp
 refine PSpec.intro tt_ok mx_ok Tryz.func34 rfl (by decide) ?_; (conv => whnf)
 refine boxP rfl ?_
 conv => whnf
 (refine oP (validateR p (okP_of hp)) ?_; conv => whnf)
 refine fI ?_
 conv => whnf
 repeat' ((first|refine nI ?_|refine aI ?_|refine tI ?_|refine fI ?_|fail);conv => whnf)
 refine WPc.loopF tt_ok mx_ok (fun z : Nat × Bool × Bool => z.1 ≤ p.rules.length ∧ (z.2.2 = true → cov0 p ∧ ∀ j, j < z.1 → (p.rules.getD j rul0).forall_.length = 0)) (fun z => [(8, .int .i64 (z.1 : Int))]) (fun z => [(2, .box 56 [.bool false, .bool false, .bool false, .bool false, .bool false]), (7, .box 56 [.bool z.2.1, .bool z.2.2, .bool false, .bool true, .bool false])]) (fun z => p.rules.length - z.1) (0, false, false) ⟨Nat.zero_le _, fun e => by first | (cases e; done) | exact ⟨⟨by omega, by omega, by omega, by omega⟩, fun j hj => by dsimp only at hj; omega⟩⟩ ?_; conv => whnf
 refine ⟨sI, ?_⟩
 rintro ⟨k, a, b⟩ ⟨hk, hb⟩
 dsimp only at hk hb ⊢
 conv => whnf
 refine cmpI ?_ ?_ <;> (intro h1; conv => whnf)
 case refine_2 => exact ⟨⟨a, b, _, _, _, rfl, fun eb => ⟨(hb eb).1, fun j hj => (hb eb).2 j (by omega)⟩⟩, rfl⟩
 refine nI ?_
 rw [tN]
 have nx : (p.rules.getD k rul0).forall_.length = 0 → (b = true → cov0 p ∧ ∀ j, j < k + 1 → (p.rules.getD j rul0).forall_.length = 0) := fun h0 eb => ⟨(hb eb).1, fun j hj => by
  by_cases e : j = k
  ·subst e; exact h0
  ·exact (hb eb).2 j (by omega)⟩
 generalize p.rules.getD k rul0 = r at nx
 conv => whnf
 by_cases q1 : r.kind = 1 ∧ r.src < r.dst ∧ r.some_.length = 0 ∧ r.forall_.length = 0
 ·repeat' ((first|refine nI ?_|refine aI ?_|refine tI ?_|refine fI ?_|fail);conv => whnf)
  exact ⟨(k + 1, a, b), sI, ⟨by dsimp only; omega, nx (by omega)⟩, by dsimp only; omega⟩
 by_cases q2 : r.forall_.length = 0
 ·repeat' ((first|refine nI ?_|refine aI ?_|refine arU trivial (by omega) ?_|refine arB trivial (by omega) ?_|refine dI ?_|refine dR ?_|refine dP ?_|refine boxP rfl ?_|refine pI _ rfl ?_|refine rowSetI _ rfl ?_|refine tI ?_|refine fI ?_|refine cmpI (fun _ => ?_) (fun _ => ?_)) <;> conv => whnf)
  all_goals exact ⟨(k + 1, false, b), sI, ⟨by dsimp only; omega, nx (by omega)⟩, by dsimp only; omega⟩
 ·repeat' ((first|refine nI ?_|refine aI ?_|refine arU trivial (by omega) ?_|refine arB trivial (by omega) ?_|refine dI ?_|refine dR ?_|refine dP ?_|refine boxP rfl ?_|refine pI _ rfl ?_|refine rowSetI _ rfl ?_|refine tI ?_|refine fI ?_|refine cmpI (fun _ => ?_) (fun _ => ?_)) <;> conv => whnf)
  all_goals exact ⟨(k + 1, false, false), sI, ⟨by dsimp only; omega, fun eb => by cases eb⟩, by dsimp only; omega⟩
theorem classifyR (p : Pro) (hp : ¬ bigP p) (hv : validE p = 0) : PSpec Tryz.prog 34 [.agg (encP p)] (clsR p) := by
 have ht := validE_top hv
 by_cases h0 : p.topology = 1 ∧ p.fault = 0 ∧ p.messages.length = 0 ∧ p.resilience.length = 0 ∧ p.values.length = 0 ∧ p.states.length ≤ 4
 ·exact classify0 p hp hv h0
 by_cases h1 : p.topology = 1 ∧ p.fault = 0 ∧ p.messages.length = 0 ∧ p.resilience.length = 0 ∧ p.values.length = 0 ∧ ¬ p.states.length ≤ 4
 ·exact classify1 p hp hv h1
 by_cases h2 : p.topology = 1 ∧ ¬ p.fault = 0 ∧ p.values.length = 0
 ·exact classify2 p hp hv h2
 by_cases h3 : p.topology = 1 ∧ p.fault = 0 ∧ ¬ p.messages.length = 0 ∧ p.values.length = 0
 ·exact classify3 p hp hv h3
 by_cases h4 : p.topology = 1 ∧ p.fault = 0 ∧ p.messages.length = 0 ∧ ¬ p.resilience.length = 0 ∧ p.values.length = 0
 ·exact classify4 p hp hv h4
 by_cases h5 : p.topology = 1 ∧ p.fault = 0 ∧ p.messages.length = 0 ∧ p.resilience.length = 0 ∧ ¬ p.values.length = 0 ∧ p.states.length ≤ 4
 ·exact classify5 p hp hv h5
 by_cases h6 : p.topology = 1 ∧ p.fault = 0 ∧ p.messages.length = 0 ∧ p.resilience.length = 0 ∧ ¬ p.values.length = 0 ∧ ¬ p.states.length ≤ 4
 ·exact classify6 p hp hv h6
 by_cases h7 : p.topology = 1 ∧ ¬ p.fault = 0 ∧ ¬ p.values.length = 0
 ·exact classify7 p hp hv h7
 by_cases h8 : p.topology = 1 ∧ p.fault = 0 ∧ ¬ p.messages.length = 0 ∧ ¬ p.values.length = 0
 ·exact classify8 p hp hv h8
 by_cases h9 : p.topology = 1 ∧ p.fault = 0 ∧ p.messages.length = 0 ∧ ¬ p.resilience.length = 0 ∧ ¬ p.values.length = 0
 ·exact classify9 p hp hv h9
 by_cases h10 : p.topology = 2
 ·exact classify10 p hp hv h10
 by_cases h11 : p.topology = 3
 ·exact classify11 p hp hv h11
 by_cases h12 : p.topology = 4
 ·exact classify12 p hp hv h12
 omega
theorem classifyR_e (p : Pro) (hp : ¬ bigP p) (hv : validE p ≠ 0) : PSpec Tryz.prog 34 [.agg (encP p)] (fun u => u = .tup [.agg [.bool false, .bool false, .bool false, .bool false, .bool false], .int .i64 (validE p)]) := by
 refine PSpec.intro tt_ok mx_ok Tryz.func34 rfl (by decide) ?_; (conv => whnf)
 refine boxP rfl ?_
 conv => whnf
 (refine oP (validateR p (okP_of hp)) ?_; conv => whnf)
 refine cmpT hv ?_
 conv => whnf
 exact ⟨rfl, rfl⟩
theorem lawMonotone (p : Pro) (s : Siz) (c : Cfg) (x : Stp) (st : Int) : PSpec Tryz.prog 7 [.agg (encAt p s c), .agg (encX x), .int .i64 st] (fun u => u = .bool true) := by
 refine PSpec.intro tt_ok mx_ok Tryz.func7 rfl (by decide) ?_; (conv => whnf)
 refine boxP rfl ?_
 conv => whnf
 refine boxP rfl ?_
 conv => whnf
 refine dC (bigF p) (fun _ => ?_) (fun _ => ?_) <;> (conv => whnf)
 ·(refine oP (knownF) ?_; conv => whnf)
  exact ⟨rfl, rfl⟩
 rename_i hp
 have hW := wideF c
 cases hw : wideB c with
 |true =>
  rw [hw] at hW
  (refine oP (hW) ?_; conv => whnf)
  (refine oP (knownF) ?_; conv => whnf)
  exact ⟨rfl, rfl⟩
 |false =>
  rw [hw] at hW
  (refine oP (hW) ?_; conv => whnf)
  have b1 := EnabledF p s c x hp hw
  by_cases hv : validE p = 0
  case neg =>
   obtain ⟨a, e, h1⟩ := ansE_form p s c (enB p s c x false)
   rw [h1] at b1
   (refine oP (classifyR_e p hp hv) ?_; conv => whnf)
   (refine oP (b1) ?_; conv => whnf)
   refine cmpT hv ?_
   conv => whnf
   (refine oP (knownF) ?_; conv => whnf)
   exact ⟨rfl, rfl⟩
  refine Spec.of_pure (n := 5) (classifyR p hp hv) rfl ?_
  rintro _ ⟨a1, a2, a3, a4, a5, rfl, hcov⟩
  conv => whnf
  by_cases h1 : vconE p s c = 0
  case neg =>
   unfold ansE at b1
   rw [if_pos h1] at b1
   (refine oP (b1) ?_; conv => whnf)
   refine fI ?_
   conv => whnf
   refine cmpT h1 ?_
   conv => whnf
   (refine oP (knownF) ?_; conv => whnf)
   exact ⟨rfl, rfl⟩
  have h := Rdy.of (s := s) hp hw h1
  unfold ansE at b1
  rw [if_neg (by omega)] at b1
  by_cases he : enB p s c x false
  case neg =>
   rw [decide_eq_false he] at b1
   cases a2
   all_goals
    (refine oP (b1) ?_; conv => whnf)
    refine fI ?_
    conv => whnf
    refine fI ?_
    conv => whnf
    (refine oP (knownF) ?_; conv => whnf)
    exact ⟨rfl, rfl⟩
  rw [decide_eq_true he] at b1
  cases a2
  ·(refine oP (b1) ?_; conv => whnf)
   refine fI ?_
   conv => whnf
   refine fI ?_
   conv => whnf
   (refine oP (knownF) ?_; conv => whnf)
   exact ⟨rfl, rfl⟩
  have hcv := hcov rfl
  (refine oP (b1) ?_; conv => whnf)
  refine fI ?_
  conv => whnf
  refine fI ?_
  conv => whnf
  refine cmpI ?_ ?_ <;> (intro h8; conv => whnf)
  ·(refine oP (knownF) ?_; conv => whnf)
   exact ⟨rfl, rfl⟩
  have hc := wide_le hw
  have hsz := h.sz
  have hcor := h.vc.cor
  have hlen := h.vc.len
  have hle := bigP_le hp
  have hns : 0 < p.states.length := validE_st hv
  refine Spec.news 400 (lmC 1001 1002 1003 1004) (memC c) (cfgL c) (copyL c hw) (auto_) rfl outC ?_
  conv => whnf
  refine dI ?_
  conv => whnf
  refine arW trivial ?_
  conv => whnf
  refine arU trivial (by omega) ?_
  conv => whnf
  refine nI ?_
  have hu : 0 ≤ IntKind.u64.wrap st := by
   have e : IntKind.u64.wrap st = st % 18446744073709551616 := by simp [IntKind.wrap, IntKind.signed, IntKind.bits]
   rw [e]; omega
  have hy0 : 0 ≤ (IntKind.u64.wrap st).tmod (p.states.length : Int) := Int.tmod_nonneg _ hu
  have hy1 : (IntKind.u64.wrap st).tmod (p.states.length : Int) < p.states.length := Int.tmod_lt_of_pos _ (by omega)
  generalize (IntKind.u64.wrap st).tmod (p.states.length : Int) = y at hy0 hy1
  conv => whnf
  refine aI ?_
  conv => whnf
  refine leakN ?_
  conv => whnf
  refine appI [y] rfl lI ?_
  conv => whnf
  have hcm : c.states.length ≤ 8 := by
   have h5 : modN p s ≤ 8 := by unfold modN; split <;> omega
   omega
  refine aI ?_
  conv => whnf
  refine aI ?_
  conv => whnf
  have hwm : wideB (moreC c y) = false := by
   have hc2 := wide_le hw
   unfold wideB moreC
   simp only [Bool.or_eq_false_iff, decide_eq_false_iff_not, List.length_append, List.length_singleton]
   omega
  have b2 := EnabledF p ⟨s.n + 1, 0, 0⟩ (moreC c y) x hp hwm
  unfold ansE at b2
  rw [if_neg (by rw [more_ok h hcv (by omega) ⟨hy0, hy1⟩ hwm]; omega), decide_eq_true (more_en h hcv he)] at b2
  (refine Spec.borrow (n := 5) (b2) rfl (by rintro _ rfl; rfl) ?_; rintro _ rfl; conv => whnf)
  refine cmpT rfl ?_
  conv => whnf
  (refine oP (knownF) ?_; conv => whnf)
  exact ⟨rfl, rfl⟩
end Go.Proofs.YtjnjieabdjpfnaaGreatDoor
