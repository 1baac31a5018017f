import Derived.Test.YtjnjieabdjpfnabDoorFoK
import Derived.Test.YtjnjieabdjpfnabDoorM5
set_option linter.unusedVariables false
set_option linter.unusedSimpArgs false
namespace Go.Proofs.YtjnjieabdjpfnabDoor
set_option maxRecDepth 100000
set_option maxHeartbeats 16000000
def fcB (p : Pro) (s : Siz) (c : Cfg) (r i : Int) : Prop := i < c.correct ∧ ∃ k : Nat, k ≤ c.states.length ∧ enB p s c ⟨r, i, (k : Int) - 1⟩ true
noncomputable instance decFc (p : Pro) (s : Siz) (c : Cfg) (r i : Int) : Decidable (fcB p s c r i) := Classical.propDecidable _
theorem forcedV (p : Pro) (s : Siz) (c : Cfg) (r i : Int) (h : Rdy p s c) : PSpec Tryd.prog 33 [.agg (encV p s c), .int .i64 r, .int .i64 i] (fun u => u = .bool (decide (fcB p s c r i))) := by
 have hc := wide_le h.wide
 refine PSpec.intro tt_ok mx_ok Tryd.func33 rfl (by decide) ?_; (conv => whnf)
 refine boxP rfl ?_
 conv => whnf
 refine cmpI ?_ ?_ <;> (intro h1; conv => whnf)
 ·exact ⟨dec_f (fun hh => by obtain ⟨_, k, _, he⟩ := hh; have := he.1.2.1; dsimp only at this; omega), rfl⟩
 refine cmpI ?_ ?_ <;> (intro h2; conv => whnf)
 ·exact ⟨dec_f (fun hh => by have := hh.1; omega), rfl⟩
 refine WPc.loopF tt_ok mx_ok (fun k : Nat => k ≤ c.states.length + 1 ∧ ∀ j : Nat, j < k → ¬ enB p s c ⟨r, i, (j : Int) - 1⟩ true) (fun k => [(7, .int .i64 ((k : Int) - 1))]) (fun _ => []) (fun k => c.states.length + 1 - k) 0 ⟨by omega, fun j hj => by omega⟩ ?_; conv => whnf
 refine ⟨sI, ?_⟩
 rintro k ⟨hk, ha⟩
 conv => whnf
 refine cmpI ?_ ?_ <;> (intro h3; conv => whnf)
 ·refine dC (enabledV p s c ⟨r, i, (k : Int) - 1⟩ true h) (fun _ => ?_) (fun _ => ?_) <;> (conv => whnf)
  ·rename_i h4
   exact ⟨dec_t ⟨by omega, k, by omega, h4⟩, rfl⟩
  ·rename_i h4
   repeat' ((first|refine nI ?_|refine aI ?_|refine tI ?_|refine fI ?_|fail);conv => whnf)
   refine ⟨k + 1, sI, ⟨by omega, fun j hj => ?_⟩, by dsimp only; omega⟩
   by_cases e : j = k
   ·subst e; exact h4
   ·exact ha j (by omega)
 ·exact ⟨dec_f (fun ⟨_, j, hj, he⟩ => ha j (by omega) he), rfl⟩
noncomputable def ansE (p : Pro) (s : Siz) (c : Cfg) (q : Prop) : AV := if vconE p s c ≠ 0 then .tup [.bool false, .int .i64 (vconE p s c)] else .tup [.bool (@decide q (Classical.propDecidable _)), .int .i64 0]
theorem dec_any {q : Prop} {i j : Decidable q} : AV.tup [.bool (@decide q i), .int .i64 0] = .tup [.bool (@decide q j), .int .i64 0] := by
 have : i = j := Subsingleton.elim i j
 rw [this]
theorem EnabledF (p : Pro) (s : Siz) (c : Cfg) (x : Stp) (hp : ¬ bigP p) (hw : wideB c = false) : PSpec Tryd.prog 20 [.agg (encP p), .agg (encZ s), .agg (encC c), .agg (encX x)] (fun u => u = ansE p s c (enB p s c x false)) := by
 have he := ansE.eq_1 p s c (enB p s c x false)
 refine PSpec.intro tt_ok mx_ok Tryd.func20 rfl (by decide) ?_; (conv => whnf)
 refine boxP rfl ?_
 conv => whnf
 refine boxP rfl ?_
 conv => whnf
 refine boxP rfl ?_
 conv => whnf
 refine boxP rfl ?_
 conv => whnf
 (refine oP (ValidConfigF p s c hp hw) ?_; conv => whnf)
 refine cmpI ?_ ?_ <;> (intro h1; conv => whnf)
 ·rw [if_pos h1] at he; exact ⟨he.symm, rfl⟩
 rw [if_neg h1] at he
 have h := Rdy.of (s := s) hp hw (by omega)
 refine dI ?_
 conv => whnf
 (refine oC (seeF p s c hw) ?_; conv => whnf)
 (refine oC (enabledV p s c x false h) ?_; conv => whnf)
 exact ⟨dec_any.trans he.symm, rfl⟩
theorem ForcedF (p : Pro) (s : Siz) (c : Cfg) (r i : Int) (hp : ¬ bigP p) (hw : wideB c = false) : PSpec Tryd.prog 13 [.agg (encP p), .agg (encZ s), .agg (encC c), .int .i64 r, .int .i64 i] (fun u => u = ansE p s c (fcB p s c r i)) := by
 have he := ansE.eq_1 p s c (fcB p s c r i)
 refine PSpec.intro tt_ok mx_ok Tryd.func13 rfl (by decide) ?_; (conv => whnf)
 refine boxP rfl ?_
 conv => whnf
 refine boxP rfl ?_
 conv => whnf
 refine boxP rfl ?_
 conv => whnf
 (refine oP (ValidConfigF p s c hp hw) ?_; conv => whnf)
 refine cmpI ?_ ?_ <;> (intro h1; conv => whnf)
 ·rw [if_pos h1] at he; exact ⟨he.symm, rfl⟩
 rw [if_neg h1] at he
 have h := Rdy.of (s := s) hp hw (by omega)
 (refine oP (seeF p s c hw) ?_; conv => whnf)
 (refine oP (forcedV p s c r i h) ?_; conv => whnf)
 exact ⟨dec_any.trans he.symm, rfl⟩
def stpS : Sh := .int (.int (.int .nil))
theorem shStep : shOf Tryd.prog 9 46 = some stpS := by kernel_rfl
def stpOf : Den stpS → Stp
 |(a, b, c, _) => ⟨a, b, c⟩
theorem cv_step {S : Store} (y : Den stpS) : CvL S (encS stpS y) (encX (stpOf y)) := by
 obtain ⟨a, b, c, ⟨⟩⟩ := y
 exact ⟨Cv.refl _ _, Cv.refl _ _, Cv.refl _ _, trivial⟩
end Go.Proofs.YtjnjieabdjpfnabDoor
