import Derived.Test.YtfoplfpbjajljaaGreatDoorX1
set_option linter.unusedVariables false
set_option linter.unusedSimpArgs false
namespace Go.Proofs.YtfoplfpbjajljaaGreatDoor
set_option maxRecDepth 100000
set_option maxHeartbeats 32000000
theorem withinR1 (n lo hi : Int) : PSpec Tryz.prog 99 [.int .i64 n, .int .i64 lo, .int .i64 hi] (fun u => u = .bool (decide (lo ≤ n ∧ n ≤ hi))) := by
 refine PSpec.intro tt_ok mx_ok Tryz.func99 rfl (by decide) ?_; (conv => whnf)
 refine cmpI ?_ ?_ <;> (intro h; conv => whnf)
 ·refine cmpI ?_ ?_ <;> (intro h2; conv => whnf)
  ·exact ⟨dec_t ⟨by omega, by omega⟩, rfl⟩
  ·exact ⟨dec_f (fun hh => by omega), rfl⟩
 ·exact ⟨dec_f (fun hh => by omega), rfl⟩
theorem SmallR (r : Row) (hl : r.coef.length ≤ 140737488355328) : PSpec Tryz.prog 136 [.agg (encRw r)] (fun u => u = .bool (decide (smlB r))) := by
 refine PSpec.intro tt_ok mx_ok Tryz.func136 rfl (by decide) ?_; (conv => whnf)
 refine boxP rfl ?_
 conv => whnf
 refine WPc.loopF tt_ok mx_ok (fun k : Nat => k ≤ r.coef.length ∧ ∀ j, j < k → numB (r.coef.getD j 0)) (fun k => [(3, .int .i64 (k : Int))]) (fun _ => []) (fun k => r.coef.length - k) 0 ⟨Nat.zero_le _, fun j hj => absurd hj (Nat.not_lt_zero _)⟩ ?_; conv => whnf
 refine ⟨sI, ?_⟩
 rintro k ⟨hk, ha⟩
 conv => whnf
 refine cmpI ?_ ?_ <;> (intro h1; conv => whnf)
 ·refine nI ?_
  rw [tN]
  conv => whnf
  refine dC (withinR1 (r.coef.getD k 0) (-68719476736) 68719476736) (fun _ => ?_) (fun _ => ?_) <;> (conv => whnf)
  ·rename_i h2
   repeat' ((first|refine nI ?_|refine aI ?_|refine arU trivial (by omega) ?_|refine arB trivial (by omega) ?_|refine dI ?_|refine dR ?_|refine dP ?_|refine boxP rfl ?_|refine pI _ rfl ?_|refine rowSetI _ rfl ?_|refine tI ?_|refine fI ?_|refine cmpI (fun _ => ?_) (fun _ => ?_)) <;> conv => whnf)
   refine ⟨k + 1, sI, ⟨by omega, fun j hj => ?_⟩, by dsimp only; omega⟩
   by_cases e : j = k
   ·subst e; exact h2
   ·exact ha j (by omega)
  ·rename_i h2
   exact ⟨dec_f (fun h => h2 (h.1 k (by omega))), rfl⟩
 ·obtain rfl : k = r.coef.length := by omega
  refine dC (withinR1 r.const (-68719476736) 68719476736) (fun _ => ?_) (fun _ => ?_) <;> (conv => whnf)
  ·rename_i h2
   exact ⟨dec_t ⟨ha, h2⟩, rfl⟩
  ·rename_i h2
   exact ⟨dec_f (fun h => h2 h.2), rfl⟩
theorem ValidateR (s : LSys) (hs : okS s) : PSpec Tryz.prog 98 [.agg (encSy s)] (fun u => u = .int .i64 (sysE s)) := by
 have hs1 := hs.1
 refine PSpec.intro tt_ok mx_ok Tryz.func98 rfl (by decide) ?_; (conv => whnf)
 refine boxP rfl ?_
 conv => whnf
 refine dC (withinR1 s.vars 0 96) (fun _ => ?_) (fun _ => ?_) <;> (conv => whnf)
 rotate_left
 ·rename_i h
  exact ⟨avI (by unfold sysE; rw [if_pos (by omega)]), rfl⟩
 rename_i h
 have h0 : ¬ (s.vars < 0 ∨ 96 < s.vars) := by omega
 refine WPc.loopF tt_ok mx_ok (fun k : Nat => k ≤ s.rows.length ∧ ∀ j, j < k → ((s.rows.getD j row0).coef.length : Int) = s.vars) (fun k => [(3, .int .i64 (k : Int))]) (fun _ => []) (fun k => s.rows.length - k) 0 ⟨Nat.zero_le _, fun j hj => absurd hj (Nat.not_lt_zero _)⟩ ?_; conv => whnf
 refine ⟨sI, ?_⟩
 rintro k ⟨hk, ha⟩
 conv => whnf
 refine cmpI ?_ ?_ <;> (intro h1; conv => whnf)
 ·have hc := hs.2 k (by omega)
  refine dI ?_
  conv => whnf
  refine nI ?_
  rw [tN]
  conv => whnf
  refine cmpI ?_ ?_ <;> (intro h2; conv => whnf)
  ·exact ⟨avI (sysE_b fun hw => h2 (hw k (by omega))).symm, rfl⟩
  ·repeat' ((first|refine nI ?_|refine aI ?_|refine arU trivial (by omega) ?_|refine arB trivial (by omega) ?_|refine dI ?_|refine dR ?_|refine dP ?_|refine boxP rfl ?_|refine pI _ rfl ?_|refine rowSetI _ rfl ?_|refine tI ?_|refine fI ?_|refine cmpI (fun _ => ?_) (fun _ => ?_)) <;> conv => whnf)
   refine ⟨k + 1, sI, ⟨by omega, fun j hj => ?_⟩, by dsimp only; omega⟩
   by_cases e : j = k
   ·subst e; exact Classical.not_not.1 h2
   ·exact ha j (by omega)
 ·obtain rfl : k = s.rows.length := by omega
  have hw : widB s := ha
  refine cmpI ?_ ?_ <;> (intro h2; conv => whnf)
  ·exact ⟨avI (sysE_c h0 hw (by omega)).symm, rfl⟩
  refine WPc.loopF tt_ok mx_ok (fun k : Nat => k ≤ s.rows.length ∧ ∀ j, j < k → smlB (s.rows.getD j row0)) (fun k => [(4, .int .i64 (k : Int))]) (fun _ => []) (fun k => s.rows.length - k) 0 ⟨Nat.zero_le _, fun j hj => absurd hj (Nat.not_lt_zero _)⟩ ?_; conv => whnf
  refine ⟨sI, ?_⟩
  rintro k ⟨hk, hb⟩
  conv => whnf
  refine cmpI ?_ ?_ <;> (intro h1; conv => whnf)
  ·refine nI ?_
   rw [tN]
   conv => whnf
   have hc := hs.2 k (by omega)
   refine dC (SmallR (s.rows.getD k row0) hc) (fun _ => ?_) (fun _ => ?_) <;> (conv => whnf)
   ·rename_i h3
    repeat' ((first|refine nI ?_|refine aI ?_|refine arU trivial (by omega) ?_|refine arB trivial (by omega) ?_|refine dI ?_|refine dR ?_|refine dP ?_|refine boxP rfl ?_|refine pI _ rfl ?_|refine rowSetI _ rfl ?_|refine tI ?_|refine fI ?_|refine cmpI (fun _ => ?_) (fun _ => ?_)) <;> conv => whnf)
    refine ⟨k + 1, sI, ⟨by omega, fun j hj => ?_⟩, by dsimp only; omega⟩
    by_cases e : j = k
    ·subst e; exact h3
    ·exact hb j (by omega)
   ·rename_i h3
    exact ⟨avI (sysE_d h0 hw (fun hh => h3 (hh k (by omega)))).symm, rfl⟩
  ·obtain rfl : k = s.rows.length := by omega
   exact ⟨avI (sysE_mk (by omega) hw (by omega) hb).symm, rfl⟩
end Go.Proofs.YtfoplfpbjajljaaGreatDoor
