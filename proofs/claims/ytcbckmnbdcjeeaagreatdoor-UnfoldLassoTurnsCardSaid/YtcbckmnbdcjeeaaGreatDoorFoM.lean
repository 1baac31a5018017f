
/-
  Enabled and Forced of any arguments; the laws UnfoldEnables and UnfoldForces.
-/
import Derived.Test.YtcbckmnbdcjeeaaGreatDoorFoL
set_option linter.unusedVariables false
set_option linter.unusedSimpArgs false
namespace Go.Proofs.YtcbckmnbdcjeeaaGreatDoor
set_option maxRecDepth 100000
set_option maxHeartbeats 16000000

/-- a pair of a rule and a process is forced -/
def fcB (p : Pro) (s : Siz) (c : Cfg) (r i : Int) : Prop := i < c.correct ∧ ∃ k : Nat, k ≤ c.states.length ∧ enB p s c ⟨r, i, (k : Int) - 1⟩ true
noncomputable instance decFc (p : Pro) (s : Siz) (c : Cfg) (r i : Int) : Decidable (fcB p s c r i) := Classical.propDecidable _
theorem forcedV (p : Pro) (s : Siz) (c : Cfg) (r i : Int) (h : Rdy p s c) : PSpec Tryz.prog 87 [.agg (encV p s c), .int .i64 r, .int .i64 i] (fun u => u = .bool (decide (fcB p s c r i))) := by
  have hc := wide_le h.wide
  refine PSpec.intro tt_ok mx_ok Tryz.func87 rfl (by decide) ?_; (conv => whnf)
  refine boxP rfl ?_
  conv => whnf
  refine cmpI (fun h1 => ?_) (fun h1 => ?_) <;> conv => whnf
  · exact ⟨dec_f (fun hh => by obtain ⟨_, k, _, he⟩ := hh; have := he.1.2.1; dsimp only at this; omega), rfl⟩
  refine cmpI (fun h2 => ?_) (fun h2 => ?_) <;> conv => whnf
  · exact ⟨dec_f (fun hh => by have := hh.1; omega), rfl⟩
  refine WPc.loopF tt_ok mx_ok (fun k : Nat => k ≤ c.states.length + 1 ∧ ∀ j : Nat, j < k → ¬ enB p s c ⟨r, i, (j : Int) - 1⟩ true) (fun k => [(7, .int .i64 ((k : Int) - 1))]) (fun _ => []) (fun k => c.states.length + 1 - k) 0 ⟨by omega, fun j hj => by omega⟩ ?_; conv => whnf
  refine ⟨(Sub.id_ 400 rfl auto_ auto_), ?_⟩
  rintro k ⟨hk, ha⟩
  conv => whnf
  refine cmpI (fun h3 => ?_) (fun h3 => ?_) <;> conv => whnf
  · refine Spec.dcall (n := 5) (enabledV p s c ⟨r, i, (k : Int) - 1⟩ true h) rfl (fun _ => ?_) (fun _ => ?_) <;> (conv => whnf)
    · rename_i h4
      exact ⟨dec_t ⟨by omega, k, by omega, h4⟩, rfl⟩
    · rename_i h4
      repeat' (first
          | (refine needI (by first | omega | (dsimp only; omega)) ?_; conv => whnf)
          | (refine arI trivial (by omega) ?_; conv => whnf)
          | (refine cmpT (by omega) ?_; conv => whnf)
          | (refine cmpF (by omega) ?_; conv => whnf)
          | fail)
      refine ⟨k + 1, (Sub.id_ 400 rfl auto_ auto_), ⟨by omega, fun j hj => ?_⟩, by dsimp only; omega⟩
      by_cases e : j = k
      · subst e; exact h4
      · exact ha j (by omega)
  · exact ⟨dec_f (fun ⟨_, j, hj, he⟩ => ha j (by omega) he), rfl⟩
theorem isForcedR (p : Pro) (s : Siz) (c : Cfg) (r i : Int) (h : Rdy p s c) : PSpec Tryz.prog 49 [.agg (encP p), .agg (encZ s), .agg (encC c), .int .i64 r, .int .i64 i] (fun u => u = .bool (decide (fcB p s c r i))) := by
  have hc := wide_le h.wide
  refine PSpec.intro tt_ok mx_ok Tryz.func49 rfl (by decide) ?_; (conv => whnf)
  refine boxP rfl ?_
  conv => whnf
  refine boxP rfl ?_
  conv => whnf
  refine boxP rfl ?_
  conv => whnf
  refine cmpI (fun h2 => ?_) (fun h2 => ?_) <;> conv => whnf
  · exact ⟨dec_f (fun hh => by have := hh.1; omega), rfl⟩
  refine WPc.loopF tt_ok mx_ok (fun k : Nat => k ≤ c.states.length + 1 ∧ ∀ j : Nat, j < k → ¬ enB p s c ⟨r, i, (j : Int) - 1⟩ true) (fun k => [(11, .int .i64 ((k : Int) - 1))]) (fun _ => []) (fun k => c.states.length + 1 - k) 0 ⟨by omega, fun j hj => by omega⟩ ?_; conv => whnf
  refine ⟨(Sub.id_ 400 rfl auto_ auto_), ?_⟩
  rintro k ⟨hk, ha⟩
  conv => whnf
  refine cmpI (fun h3 => ?_) (fun h3 => ?_) <;> conv => whnf
  · refine Spec.dcall (n := 5) (enabledR p s c ⟨r, i, (k : Int) - 1⟩ true h) rfl (fun _ => ?_) (fun _ => ?_) <;> (conv => whnf)
    · rename_i h4
      exact ⟨dec_t ⟨by omega, k, by omega, h4⟩, rfl⟩
    · rename_i h4
      repeat' (first
          | (refine needI (by first | omega | (dsimp only; omega)) ?_; conv => whnf)
          | (refine arI trivial (by omega) ?_; conv => whnf)
          | (refine cmpT (by omega) ?_; conv => whnf)
          | (refine cmpF (by omega) ?_; conv => whnf)
          | fail)
      refine ⟨k + 1, (Sub.id_ 400 rfl auto_ auto_), ⟨by omega, fun j hj => ?_⟩, by dsimp only; omega⟩
      by_cases e : j = k
      · subst e; exact h4
      · exact ha j (by omega)
  · exact ⟨dec_f (fun ⟨_, j, hj, he⟩ => ha j (by omega) he), rfl⟩

/-- an answer behind the errors of a configuration -/
noncomputable def ansE (p : Pro) (s : Siz) (c : Cfg) (q : Prop) : AV := if vconE p s c ≠ 0 then .tup [.bool false, .int .i64 (vconE p s c)] else .tup [.bool (@decide q (Classical.propDecidable _)), .int .i64 0]
theorem dec_any {q : Prop} {i j : Decidable q} : AV.tup [.bool (@decide q i), .int .i64 0] = .tup [.bool (@decide q j), .int .i64 0] := by
  have : i = j := Subsingleton.elim i j
  rw [this]
theorem ansE_form (p : Pro) (s : Siz) (c : Cfg) (q : Prop) : ∃ (b : Bool) (e : Int), ansE p s c q = .tup [.bool b, .int .i64 e] := by
  unfold ansE
  split <;> exact ⟨_, _, rfl⟩
end Go.Proofs.YtcbckmnbdcjeeaaGreatDoor
