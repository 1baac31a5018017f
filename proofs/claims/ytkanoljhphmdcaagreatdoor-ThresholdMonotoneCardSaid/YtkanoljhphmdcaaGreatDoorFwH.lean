import Derived.Test.YtkanoljhphmdcaaGreatDoorFwG
set_option linter.unusedVariables false
set_option linter.unusedSimpArgs false
namespace Go.Proofs.YtkanoljhphmdcaaGreatDoor
set_option maxRecDepth 100000
set_option maxHeartbeats 16000000
theorem orderedR (p : Pro) (hv : validE p = 0) : PSpec Tryz.prog 22 [.agg (encP p)] (fun u => u = .sl 0 encI (ordL p.rules p.states.length)) := by
 have hn := (vld_of hv).len
 refine PSpec.intro tt_ok mx_ok Tryz.func22 rfl (by decide) ?_; (conv => whnf)
 refine boxP rfl ?_
 conv => whnf
 refine WPc.loopF tt_ok mx_ok (fun x : Nat => x ≤ p.states.length) (fun x => [(4, .int .i64 (x : Int)), (3, .row 1000 (ordO p.rules x).length 1)]) (fun x => [(1000, rowN (ordO p.rules x))]) (fun x => p.states.length - x) 0 (Nat.zero_le _) ?_; conv => whnf
 refine ⟨Sub.by_ [(1000, .nil 1)] _ 400 rfl (auto_) (auto_), ?_⟩
 rintro x hx
 have hol := ordO_len p.rules x
 have hol2 : p.rules.length * x ≤ 8 * 6 := Nat.mul_le_mul (by omega) (by omega)
 conv => whnf
 refine cmpI ?_ ?_ <;> (intro h1; conv => whnf)
 ·refine WPc.loopF tt_ok mx_ok (fun r : Nat => r ≤ p.rules.length) (fun r => [(5, .int .i64 (r : Int)), (3, .row 1000 (ordO p.rules x ++ ordX p.rules x r).length 1)]) (fun r => [(1000, rowN (ordO p.rules x ++ ordX p.rules x r))]) (fun r => p.rules.length - r) 0 (Nat.zero_le _) ?_; conv => whnf
  refine ⟨by rw [ordX_zero]; exact sI, ?_⟩
  rintro r hr
  have hxl := ordX_len p.rules x r
  have hll : (ordO p.rules x ++ ordX p.rules x r).length ≤ 1000 := by rw [List.length_append]; omega
  conv => whnf
  refine cmpI ?_ ?_ <;> (intro h2; conv => whnf)
  ·refine nI ?_
   rw [tN]
   conv => whnf
   refine cmpI ?_ ?_ <;> (intro h3; conv => whnf)
   ·have e := ordX_yes h3 (ordO p.rules x)
    refine appI [(r : Int)] rfl lI ?_
    conv => whnf
    repeat' ((first|refine nI ?_|refine aI ?_|refine tI ?_|refine fI ?_|fail);conv => whnf)
    refine ⟨r + 1, ?_, by omega, by dsimp only; omega⟩
    dsimp only
    rw [e]
    exact Sub.by_ [(1000, .old 31)] _ 400 rfl (auto_) (auto_)
   ·have e := ordX_no h3 (ordO p.rules x)
    repeat' ((first|refine nI ?_|refine aI ?_|refine tI ?_|refine fI ?_|fail);conv => whnf)
    refine ⟨r + 1, ?_, by omega, by dsimp only; omega⟩
    dsimp only
    rw [e]
    exact sI
  ·obtain rfl : r = p.rules.length := by omega
   have e := ordO_up p.rules x
   repeat' ((first|refine nI ?_|refine aI ?_|refine tI ?_|refine fI ?_|fail);conv => whnf)
   refine ⟨x + 1, ?_, by omega, by dsimp only; omega⟩
   dsimp only
   rw [e]
   exact sI
 ·obtain rfl : x = p.states.length := by omega
  rw [ordO_all]
  exact ⟨rfl, rfl⟩
theorem OrderR (p : Pro) (q : Prp) (hp : okP p) (hq : okQ q) : PSpec Tryz.prog 7 [.agg (encP p), .agg (encQ q)] (fun u => u = ordA p q) := by
 have he := ordA.eq_1 p q
 refine PSpec.intro tt_ok mx_ok Tryz.func7 rfl (by decide) ?_; (conv => whnf)
 refine boxP rfl ?_
 conv => whnf
 refine boxP rfl ?_
 conv => whnf
 (refine oP (CheckR p q hp hq) ?_; conv => whnf)
 refine cmpI ?_ ?_ <;> (intro h1; conv => whnf)
 ·rw [if_pos h1] at he
  exact ⟨he.symm, rfl⟩
 ·have h0 : chkE p q = 0 := by omega
  rw [if_neg h1] at he
  (refine oP (orderedR p (vlq_of (chk_prop h0)).vld) ?_; conv => whnf)
  exact ⟨he.symm, rfl⟩
end Go.Proofs.YtkanoljhphmdcaaGreatDoor
