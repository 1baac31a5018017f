import Derived.Test.YtkanoljhphmdcaaGreatDoorGB
import Derived.Test.YtkanoljhphmdcaaGreatDoorM7
set_option linter.unusedVariables false
set_option linter.unusedSimpArgs false
namespace Go.Proofs.YtkanoljhphmdcaaGreatDoor
set_option maxRecDepth 100000
set_option maxHeartbeats 16000000
def stpB (p : Pro) (s : Siz) (c : Cfg) : Prop := ∀ r : Nat, r < p.rules.length → ∀ i : Nat, i < c.states.length → ¬ fcB p s c (r : Int) (i : Int)
noncomputable instance decStp (p : Pro) (s : Siz) (c : Cfg) : Decidable (stpB p s c) := Classical.propDecidable _
noncomputable def unlA (p : Pro) (s : Siz) (c : Cfg) : AV := if vldE p s c ≠ 0 then .tup [.nilsl, .int .i64 (vldE p s c)] else .tup [.sl 0 encI (unlL p s c (thrL p.rules).length), .int .i64 0]
noncomputable def stoA (p : Pro) (s : Siz) (c : Cfg) : AV := if vldE p s c ≠ 0 then .tup [.bool false, .int .i64 (vldE p s c)] else .tup [.bool (decide (stpB p s c)), .int .i64 0]
theorem UnlockedG (p : Pro) (s : Siz) (c : Cfg) (hp : okP p) (hc : okC c) : PSpec Tryz.prog 8 [.agg (encP p), .agg (encZ s), .agg (encC c)] (fun u => u = unlA p s c) := by
 have he := unlA.eq_1 p s c
 refine PSpec.intro tt_ok mx_ok Tryz.func8 rfl (by decide) ?_; (conv => whnf)
 refine boxP rfl ?_
 conv => whnf
 refine boxP rfl ?_
 conv => whnf
 refine boxP rfl ?_
 conv => whnf
 (refine oP (validG p s c hp hc) ?_; conv => whnf)
 refine cmpI ?_ ?_ <;> (intro h; conv => whnf)
 ·rw [if_pos h] at he
  exact ⟨he.symm, rfl⟩
 rw [if_neg h] at he
 (refine oP (unlockedG p s c hp (vld_ok (Classical.not_not.1 h)).2.2.2.1) ?_; conv => whnf)
 exact ⟨he.symm, rfl⟩
theorem UnlockedH (p : Pro) (s : Siz) (c : Cfg) (hp : okP p) (hc : okC c) : PSpec Tryz.prog 9 [.agg (encP p), .agg (encZ s), .agg (encC c)] (fun u => u = unlA p s c) := by
 have he := unlA.eq_1 p s c
 refine PSpec.intro tt_ok mx_ok Tryz.func9 rfl (by decide) ?_; (conv => whnf)
 refine boxP rfl ?_
 conv => whnf
 refine boxP rfl ?_
 conv => whnf
 refine boxP rfl ?_
 conv => whnf
 (refine oP (placedG p s c hp hc) ?_; conv => whnf)
 refine cmpI ?_ ?_ <;> (intro h; conv => whnf)
 ·rw [if_pos h] at he
  exact ⟨he.symm, rfl⟩
 rw [if_neg h] at he
 (refine oP (unlockedH p s c hp (vld_ok (Classical.not_not.1 h)).2.2.2.1) ?_; conv => whnf)
 exact ⟨he.symm, rfl⟩
theorem frc_ans {f : FuncId} {p : Pro} {s : Siz} {c : Cfg} {r i : Int} (hv : vconE p s c = 0) (h : PSpec Tryz.prog f [.agg (encP p), .agg (encZ s), .agg (encC c), .int .i64 r, .int .i64 i] (fun u => u = ansE p s c (fcB p s c r i))) :
  (fcB p s c r i → PSpec Tryz.prog f [.agg (encP p), .agg (encZ s), .agg (encC c), .int .i64 r, .int .i64 i] (fun u => u = .tup [.bool true, .int .i64 0])) ∧ (¬ fcB p s c r i → PSpec Tryz.prog f [.agg (encP p), .agg (encZ s), .agg (encC c), .int .i64 r, .int .i64 i] (fun u => u = .tup [.bool false, .int .i64 0])) := by
 unfold ansE at h
 rw [if_neg (fun x => x hv)] at h
 refine ⟨fun hf => ?_, fun hf => ?_⟩
 ·rw [decide_eq_true hf] at h; exact h
 ·rw [decide_eq_false hf] at h; exact h
theorem StoppedG (p : Pro) (s : Siz) (c : Cfg) (hp : okP p) (hc : okC c) : PSpec Tryz.prog 10 [.agg (encP p), .agg (encZ s), .agg (encC c)] (fun u => u = stoA p s c) := by
 have he := stoA.eq_1 p s c
 refine PSpec.intro tt_ok mx_ok Tryz.func10 rfl (by decide) ?_; (conv => whnf)
 refine boxP rfl ?_
 conv => whnf
 refine boxP rfl ?_
 conv => whnf
 refine boxP rfl ?_
 conv => whnf
 (refine oP (validG p s c hp hc) ?_; conv => whnf)
 refine cmpI ?_ ?_ <;> (intro h; conv => whnf)
 ·rw [if_pos h] at he
  exact ⟨he.symm, rfl⟩
 rw [if_neg h] at he
 obtain ⟨h1, h2, h3, h4, h5⟩ := vld_ok (Classical.not_not.1 h)
 have hle := bigP_le h4.big
 have hw := wide_le h4.wide
 have yes : ∀ r i : Nat, r < p.rules.length → i < c.states.length → fcB p s c r i → stoA p s c = .tup [.bool false, .int .i64 0] := fun r i hr hi hf => by
  rw [he, decide_eq_false (fun hh => hh r hr i hi hf)]
 refine WPc.loopF tt_ok mx_ok (fun r : Nat => r ≤ p.rules.length ∧ ∀ a : Nat, a < r → ∀ i : Nat, i < c.states.length → ¬ fcB p s c (a : Int) (i : Int)) (fun r => [(23, .int .i64 (r : Int))]) (fun _ => []) (fun r => p.rules.length - r) 0 ⟨Nat.zero_le _, fun a ha => absurd ha (Nat.not_lt_zero _)⟩ ?_; conv => whnf
 refine ⟨sI, ?_⟩
 rintro r ⟨hr, ha⟩
 conv => whnf
 refine cmpI ?_ ?_ <;> (intro k1; conv => whnf)
 ·have hrl : r < p.rules.length := by omega
  refine WPc.loopF tt_ok mx_ok (fun i : Nat => i ≤ c.states.length ∧ ∀ j : Nat, j < i → ¬ fcB p s c (r : Int) (j : Int)) (fun i => [(29, .int .i64 (i : Int))]) (fun _ => []) (fun i => c.states.length - i) 0 ⟨Nat.zero_le _, fun a ha => absurd ha (Nat.not_lt_zero _)⟩ ?_; conv => whnf
  refine ⟨sI, ?_⟩
  rintro i ⟨hi, hb⟩
  conv => whnf
  refine cmpI ?_ ?_ <;> (intro k2; conv => whnf)
  ·have hil : i < c.states.length := by omega
   obtain ⟨hA, hN⟩ := frc_ans h5 (ForcedF p s c r i h4.big h4.wide)
   by_cases hf : fcB p s c (r : Int) (i : Int)
   ·(refine oP (hA hf) ?_; conv => whnf)
    repeat' ((first|refine nI ?_|refine aI ?_|refine tI ?_|refine fI ?_|fail);conv => whnf)
    exact ⟨(yes r i hrl hil hf).symm, rfl⟩
   ·(refine oP (hN hf) ?_; conv => whnf)
    repeat' ((first|refine nI ?_|refine aI ?_|refine tI ?_|refine fI ?_|fail);conv => whnf)
    refine ⟨i + 1, sI, ⟨by omega, fun j hj => ?_⟩, by dsimp only; omega⟩
    by_cases e : j = i
    ·subst e; exact hf
    ·exact hb j (by omega)
  ·obtain rfl : i = c.states.length := by omega
   repeat' ((first|refine nI ?_|refine aI ?_|refine tI ?_|refine fI ?_|fail);conv => whnf)
   refine ⟨r + 1, sI, ⟨by omega, fun a hal => ?_⟩, by dsimp only; omega⟩
   by_cases e : a = r
   ·subst e; exact hb
   ·exact ha a (by omega)
 ·obtain rfl : r = p.rules.length := by omega
  rw [decide_eq_true (show stpB p s c from ha)] at he
  exact ⟨he.symm, rfl⟩
theorem StoppedH (p : Pro) (s : Siz) (c : Cfg) (hp : okP p) (hc : okC c) : PSpec Tryz.prog 11 [.agg (encP p), .agg (encZ s), .agg (encC c)] (fun u => u = stoA p s c) := by
 have he := stoA.eq_1 p s c
 refine PSpec.intro tt_ok mx_ok Tryz.func11 rfl (by decide) ?_; (conv => whnf)
 refine boxP rfl ?_
 conv => whnf
 refine boxP rfl ?_
 conv => whnf
 refine boxP rfl ?_
 conv => whnf
 (refine oP (placedG p s c hp hc) ?_; conv => whnf)
 refine cmpI ?_ ?_ <;> (intro h; conv => whnf)
 ·rw [if_pos h] at he
  exact ⟨he.symm, rfl⟩
 rw [if_neg h] at he
 obtain ⟨h1, h2, h3, h4, h5⟩ := vld_ok (Classical.not_not.1 h)
 have hle := bigP_le h4.big
 have hw := wide_le h4.wide
 have yes : ∀ r i : Nat, r < p.rules.length → i < c.states.length → fcB p s c r i → stoA p s c = .tup [.bool false, .int .i64 0] := fun r i hr hi hf => by
  rw [he, decide_eq_false (fun hh => hh r hr i hi hf)]
 refine WPc.loopF tt_ok mx_ok (fun r : Nat => r ≤ p.rules.length ∧ ∀ a : Nat, a < r → ∀ i : Nat, i < c.states.length → ¬ fcB p s c (a : Int) (i : Int)) (fun r => [(9, .int .i64 (r : Int))]) (fun _ => []) (fun r => p.rules.length - r) 0 ⟨Nat.zero_le _, fun a ha => absurd ha (Nat.not_lt_zero _)⟩ ?_; conv => whnf
 refine ⟨sI, ?_⟩
 rintro r ⟨hr, ha⟩
 conv => whnf
 refine cmpI ?_ ?_ <;> (intro k1; conv => whnf)
 ·have hrl : r < p.rules.length := by omega
  refine WPc.loopF tt_ok mx_ok (fun i : Nat => i ≤ c.states.length ∧ ∀ j : Nat, j < i → ¬ fcB p s c (r : Int) (j : Int)) (fun i => [(10, .int .i64 (i : Int))]) (fun _ => []) (fun i => c.states.length - i) 0 ⟨Nat.zero_le _, fun a ha => absurd ha (Nat.not_lt_zero _)⟩ ?_; conv => whnf
  refine ⟨sI, ?_⟩
  rintro i ⟨hi, hb⟩
  conv => whnf
  refine cmpI ?_ ?_ <;> (intro k2; conv => whnf)
  ·have hil : i < c.states.length := by omega
   obtain ⟨hA, hN⟩ := frc_ans h5 (ForcedR p s c r i h4.big h4.wide)
   by_cases hf : fcB p s c (r : Int) (i : Int)
   ·(refine oP (hA hf) ?_; conv => whnf)
    repeat' ((first|refine nI ?_|refine aI ?_|refine tI ?_|refine fI ?_|fail);conv => whnf)
    exact ⟨(yes r i hrl hil hf).symm, rfl⟩
   ·(refine oP (hN hf) ?_; conv => whnf)
    repeat' ((first|refine nI ?_|refine aI ?_|refine tI ?_|refine fI ?_|fail);conv => whnf)
    refine ⟨i + 1, sI, ⟨by omega, fun j hj => ?_⟩, by dsimp only; omega⟩
    by_cases e : j = i
    ·subst e; exact hf
    ·exact hb j (by omega)
  ·obtain rfl : i = c.states.length := by omega
   repeat' ((first|refine nI ?_|refine aI ?_|refine tI ?_|refine fI ?_|fail);conv => whnf)
   refine ⟨r + 1, sI, ⟨by omega, fun a hal => ?_⟩, by dsimp only; omega⟩
   by_cases e : a = r
   ·subst e; exact hb
   ·exact ha a (by omega)
 ·obtain rfl : r = p.rules.length := by omega
  rw [decide_eq_true (show stpB p s c from ha)] at he
  exact ⟨he.symm, rfl⟩
end Go.Proofs.YtkanoljhphmdcaaGreatDoor
