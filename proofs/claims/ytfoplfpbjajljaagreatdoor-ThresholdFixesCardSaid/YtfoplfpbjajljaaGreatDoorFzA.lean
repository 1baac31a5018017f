import Derived.Test.YtfoplfpbjajljaaGreatDoorY1
import Derived.Test.YtfoplfpbjajljaaGreatDoorFyI
import Derived.Test.YtfoplfpbjajljaaGreatDoorX1
set_option linter.unusedVariables false
set_option linter.unusedSimpArgs false
namespace Go.Proofs.YtfoplfpbjajljaaGreatDoor
set_option maxRecDepth 100000
set_option maxHeartbeats 16000000
theorem sameSysR (s : LSys) (h1 : s.rows.length ≤ 1000000) (h2 : ∀ k, k < s.rows.length → (s.rows.getD k row0).coef.length ≤ 1000000) : PSpec Tryz.prog 24 [.agg (encSy s), .agg (encSy s)] (fun u => u = .bool true) := by
 refine PSpec.intro tt_ok mx_ok Tryz.func24 rfl (by decide) ?_; (conv => whnf)
 refine boxP rfl ?_
 conv => whnf
 refine boxP rfl ?_
 conv => whnf
 refine fI ?_
 conv => whnf
 refine fI ?_
 conv => whnf
 refine WPc.loopF tt_ok mx_ok (fun k : Nat => k ≤ s.rows.length) (fun k => [(5, .int .i64 (k : Int))]) (fun _ => []) (fun k => s.rows.length - k) 0 (Nat.zero_le _) ?_; conv => whnf
 refine ⟨sI, ?_⟩
 rintro k hk
 conv => whnf
 refine cmpI ?_ ?_ <;> (intro h1; conv => whnf)
 ·refine dI ?_
  conv => whnf
  refine nI ?_
  rw [tN]
  conv => whnf
  refine nI ?_
  rw [tN]
  conv => whnf
  refine fI ?_
  conv => whnf
  refine nI ?_
  rw [tN]
  conv => whnf
  refine nI ?_
  rw [tN]
  conv => whnf
  (refine oC (sameIntsP (s.rows.getD k row0).coef (h2 k (by omega))) ?_; conv => whnf)
  repeat' ((first|refine nI ?_|refine aI ?_|refine tI ?_|refine fI ?_|fail);conv => whnf)
  exact ⟨k + 1, sI, by omega, by dsimp only; omega⟩
 ·exact ⟨rfl, rfl⟩
theorem sameSysN : PSpec Tryz.prog 24 [.agg [.int .i64 0, .nilsl], .agg [.int .i64 0, .nilsl]] (fun u => u = .bool true) := by
 refine PSpec.intro tt_ok mx_ok Tryz.func24 rfl (by decide) ?_; (conv => whnf)
 refine boxP rfl ?_
 conv => whnf
 refine boxP rfl ?_
 conv => whnf
 refine fI ?_
 conv => whnf
 refine fI ?_
 conv => whnf
 refine WPc.loopF tt_ok mx_ok (fun k : Nat => k = 0) (fun k => [(5, .int .i64 (k : Int))]) (fun _ => []) (fun _ => 0) 0 rfl ?_; conv => whnf
 refine ⟨sI, ?_⟩
 rintro k rfl
 conv => whnf
 refine fI ?_
 conv => whnf
 exact ⟨rfl, rfl⟩
end Go.Proofs.YtfoplfpbjajljaaGreatDoor
