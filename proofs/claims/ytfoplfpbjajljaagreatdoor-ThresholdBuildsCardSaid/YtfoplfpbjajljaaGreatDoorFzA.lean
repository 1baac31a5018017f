import Derived.Test.YtfoplfpbjajljaaGreatDoorY1
import Derived.Test.YtfoplfpbjajljaaGreatDoorFyI
import Derived.Test.YtfoplfpbjajljaaGreatDoorX1
set_option linter.unusedVariables false
set_option linter.unusedSimpArgs false
namespace Go.Proofs.YtfoplfpbjajljaaGreatDoor
set_option maxRecDepth 100000
set_option maxHeartbeats 16000000
theorem sameSysR (s : LSys) (h1 : s.rows.length ≤ 1000000) (h2 : ∀ k, k < s.rows.length → (s.rows.getD k row0).coef.length ≤ 1000000) : PSpec Tryz.prog 24 [.agg (encSy s), .agg (encSy s)] (fun u => u = .bool true) := by
 refine PSpec.intro tt_ok mx_ok Tryz.func24 rfl (by decide) ?_; (conv => whnf)
 refine boxP rfl ?_
 conv => whnf
 refine boxP rfl ?_
 conv => whnf
 refine fI ?_
 conv => whnf
 refine fI ?_
 conv => whnf
 refine WPc.loopF tt_ok mx_ok (fun k : Nat => k ≤ s.rows.length) (fun k => [(5, .int .i64 (k : Int))]) (fun _ => []) (fun k => s.rows.length - k) 0 (Nat.zero_le _) ?_; conv => whnf
 refine ⟨sI, ?_⟩
 rintro k hk
 conv => whnf
 refine cmpI ?_ ?_ <;> (intro h1; conv => whnf)
 ·refine dI ?_
  conv => whnf
  refine nI ?_
  rw [tN]
  conv => whnf
  refine nI ?_
  rw [tN]
  conv => whnf
  refine fI ?_
  conv => whnf
  refine nI ?_
  rw [tN]
  conv => whnf
  refine nI ?_
  rw [tN]
  conv => whnf
  (refine oC (sameIntsP (s.rows.getD k row0).coef (h2 k (by omega))) ?_; conv => whnf)
  repeat' ((first|refine nI ?_|refine aI ?_|refine tI ?_|refine fI ?_|fail);conv => whnf)
  exact ⟨k + 1, sI, by omega, by dsimp only; omega⟩
 ·exact ⟨rfl, rfl⟩
theorem sameSysN : PSpec Tryz.prog 24 [.agg [.int .i64 0, .nilsl], .agg [.int .i64 0, .nilsl]] (fun u => u = .bool true) := by
 refine PSpec.intro tt_ok mx_ok Tryz.func24 rfl (by decide) ?_; (conv => whnf)
 refine boxP rfl ?_
 conv => whnf
 refine boxP rfl ?_
 conv => whnf
 refine fI ?_
 conv => whnf
 refine fI ?_
 conv => whnf
 refine WPc.loopF tt_ok mx_ok (fun k : Nat => k = 0) (fun k => [(5, .int .i64 (k : Int))]) (fun _ => []) (fun _ => 0) 0 rfl ?_; conv => whnf
 refine ⟨sI, ?_⟩
 rintro k rfl
 conv => whnf
 refine fI ?_
 conv => whnf
 exact ⟨rfl, rfl⟩
theorem lawBuilds (p : Pro) (q : Prp) (hp : okP p) (hq : okQ q) (sch : List Int) (hl : sch.length ≤ 140737488355328) (number : Int) : PSpec Tryz.prog 5 [.agg (encPQ p q), .sl 0 encI sch, .int .i64 number] (fun u => u = .bool true) := by
 have hF := BuildF p q hp hq sch hl number
 have hR := BuildR p q hp hq sch hl number
 have hs := saneF
 refine PSpec.intro tt_ok mx_ok Tryz.func5 rfl (by decide) ?_; (conv => whnf)
 refine boxP rfl ?_
 conv => whnf
 apply once6
 case k =>
  intro o1 o2 o3 o4 o5 o6
  refine drawC [0, 1, 2, 3] (by decide +kernel) ?_
  conv => whnf
  repeat' first
   |exact True.intro
   |(refine And.intro ?_ ?_ <;> conv => whnf)
   |with_reducible exact o1
   |with_reducible exact o2
   |with_reducible exact o3
   |with_reducible exact o4
   |with_reducible exact o5
   |with_reducible exact o6
   |fail
 all_goals try first
  |exact True.intro
  |exact True
 all_goals
  by_cases h : chkE p q = 0
  ·by_cases h2 : ¬ schB (thrL p.rules).length sch ∨ number < -1 ∨ (csN p q : Int) ≤ number
   ·rw [bldA, if_neg (by omega), if_pos h2] at hF hR
    (refine oP (hF) ?_; conv => whnf)
    (refine oP (hR) ?_; conv => whnf)
    repeat' ((first|refine nI ?_|refine aI ?_|refine tI ?_|refine fI ?_|fail);conv => whnf)
    (refine oP (sameSysN) ?_; conv => whnf)
    repeat' ((first|refine nI ?_|refine aI ?_|refine tI ?_|refine fI ?_|fail);conv => whnf)
    (refine oP (hs) ?_; conv => whnf)
    exact ⟨rfl, rfl⟩
   ·rw [bldA, if_neg (by omega), if_neg h2] at hF hR
    have hsc : schB (thrL p.rules).length sch := Classical.not_not.1 fun hh => h2 (.inl hh)
    have h0 := sysB_ok (chk_prop h) hsc number
    have ho := okS_valid h0
    obtain ⟨a1, a2, a3, a4⟩ := sysE_ok h0
    have hS := sameSysR (sysB p q sch number) (by omega) (fun k hk => by have := a2 k hk; omega)
    have hV := ValidateF (sysB p q sch number) ho
    rw [h0] at hV
    unfold encSy sysB at hS hV
    dsimp only at hS hV
    (refine oP (hF) ?_; conv => whnf)
    (refine oP (hR) ?_; conv => whnf)
    repeat' ((first|refine nI ?_|refine aI ?_|refine tI ?_|refine fI ?_|fail);conv => whnf)
    (refine oP (hS) ?_; conv => whnf)
    repeat' ((first|refine nI ?_|refine aI ?_|refine tI ?_|refine fI ?_|fail);conv => whnf)
    (refine oP (hV) ?_; conv => whnf)
    repeat' ((first|refine nI ?_|refine aI ?_|refine tI ?_|refine fI ?_|fail);conv => whnf)
    (refine oP (hs) ?_; conv => whnf)
    exact ⟨rfl, rfl⟩
  ·rw [bldA, if_pos h] at hF hR
   (refine oP (hF) ?_; conv => whnf)
   (refine oP (hR) ?_; conv => whnf)
   repeat' ((first|refine nI ?_|refine aI ?_|refine tI ?_|refine fI ?_|fail);conv => whnf)
   (refine oP (sameSysN) ?_; conv => whnf)
   repeat' ((first|refine nI ?_|refine aI ?_|refine tI ?_|refine fI ?_|fail);conv => whnf)
   (refine oP (hs) ?_; conv => whnf)
   exact ⟨rfl, rfl⟩
end Go.Proofs.YtfoplfpbjajljaaGreatDoor
