import Derived.Test.YtfoplfpbjajljaaGreatDoorFzR
import Derived.Test.YtfoplfpbjajljaaGreatDoorZ2
import Derived.Test.YtfoplfpbjajljaaGreatDoorFzA
import Derived.Test.YtfoplfpbjajljaaGreatDoorRdJ
set_option linter.unusedVariables false
set_option linter.unusedSimpArgs false
namespace Go.Proofs.YtfoplfpbjajljaaGreatDoor
set_option maxRecDepth 100000
set_option maxHeartbeats 16000000
theorem Admissible2 (p : Pro) (s : Siz) (hp : okP p) (hv : validE p = 0) : PSpec Tryz.prog 135 [.agg (encP p), .agg (encZ s)] (fun u => u = .bool (decide (admB p s))) := by
 have hV := validateR p hp
 rw [hv] at hV
 refine PSpec.intro tt_ok mx_ok Tryz.func135 rfl (by decide) ?_; (conv => whnf)
 refine boxP rfl ?_
 conv => whnf
 refine boxP rfl ?_
 conv => whnf
 (refine oP (hV) ?_; conv => whnf)
 repeat' ((first|refine nI ?_|refine aI ?_|refine tI ?_|refine fI ?_|fail);conv => whnf)
 refine dC (admissibleR p s (not_big hv) (validE_res hv)) (fun _ => ?_) (fun _ => ?_) <;> (conv => whnf)
 ·rename_i h; exact ⟨dec_t h, rfl⟩
 ·rename_i h; exact ⟨dec_f h, rfl⟩
theorem Sized4 (p : Pro) (s : Siz) (hp : okP p) (hv : validE p = 0) : PSpec Tryz.prog 97 [.agg (encP p), .agg (encZ s)] (fun u => u = .int .i64 (szdE p s)) := by
 refine PSpec.intro tt_ok mx_ok Tryz.func97 rfl (by decide) ?_; (conv => whnf)
 refine boxP rfl ?_
 conv => whnf
 refine boxP rfl ?_
 conv => whnf
 refine dC (Admissible2 p s hp hv) (fun _ => ?_) (fun _ => ?_) <;> (conv => whnf)
 ·rename_i h
  refine cmpI ?_ ?_ <;> (intro h2; conv => whnf)
  ·exact ⟨avI (by unfold szdE; rw [if_neg (fun x => x h), if_pos (by omega)]), rfl⟩
  ·exact ⟨avI (by unfold szdE; rw [if_neg (fun x => x h), if_neg (by omega)]), rfl⟩
 ·rename_i h
  exact ⟨avI (by unfold szdE; rw [if_pos h]), rfl⟩
theorem checkedR (p : Pro) (q : Prp) (s : Siz) (hp : okP p) (hq : okQ q) : PSpec Tryz.prog 54 [.agg (encP p), .agg (encQ q), .agg (encZ s)] (fun u => u = .int .i64 (lszE p q s)) := by
 refine PSpec.intro tt_ok mx_ok Tryz.func54 rfl (by decide) ?_; (conv => whnf)
 refine boxP rfl ?_
 conv => whnf
 refine boxP rfl ?_
 conv => whnf
 refine boxP rfl ?_
 conv => whnf
 (refine oP (propertyR p q hp hq) ?_; conv => whnf)
 refine cmpI ?_ ?_ <;> (intro h; conv => whnf)
 ·exact ⟨avI (by unfold lszE; rw [if_pos h]), rfl⟩
 have h0 : propE p q = 0 := Classical.not_not.1 h
 (refine oP (Sized4 p s hp (vlq_of h0).vld) ?_; conv => whnf)
 refine cmpI ?_ ?_ <;> (intro h1; conv => whnf)
 ·exact ⟨avI (by unfold lszE; rw [if_neg h, if_pos h1]), rfl⟩
 (refine oP (CheckR p q hp hq) ?_; conv => whnf)
 exact ⟨avI (by unfold lszE; rw [if_neg h, if_neg h1]), rfl⟩
theorem FixR (p : Pro) (q : Prp) (hp : okP p) (hq : okQ q) (sch : List Int) (hl : sch.length ≤ 140737488355328) (number : Int) (s : Siz) : PSpec Tryz.prog 27 [.agg (encP p), .agg (encQ q), .sl 0 encI sch, .int .i64 number, .agg (encZ s)] (fun u => u = fixA p q sch number s) := by
 have he := fixA.eq_1 p q sch number s
 have hL := checkedR p q s hp hq
 have hB := BuildR p q hp hq sch hl number
 refine PSpec.intro tt_ok mx_ok Tryz.func27 rfl (by decide) ?_; (conv => whnf)
 refine boxP rfl ?_
 conv => whnf
 refine boxP rfl ?_
 conv => whnf
 refine boxP rfl ?_
 conv => whnf
 by_cases h : lszE p q s = 0
 rotate_left
 ·rw [if_pos h] at he
  (refine oP (hL) ?_; conv => whnf)
  refine cmpT h ?_
  conv => whnf
  exact ⟨he.symm, rfl⟩
 rw [h] at hL
 rw [if_neg (fun x => x h)] at he
 have hk := lsz_chk h
 (refine oP (hL) ?_; conv => whnf)
 repeat' ((first|refine nI ?_|refine aI ?_|refine tI ?_|refine fI ?_|fail);conv => whnf)
 by_cases h2 : ¬ schB (thrL p.rules).length sch ∨ number < -1 ∨ (csN p q : Int) ≤ number
 ·rw [if_pos h2] at he
  rw [bldA, if_neg (by omega), if_pos h2] at hB
  (refine oP (hB) ?_; conv => whnf)
  repeat' ((first|refine nI ?_|refine aI ?_|refine tI ?_|refine fI ?_|fail);conv => whnf)
  exact ⟨he.symm, rfl⟩
 rw [if_neg h2] at he
 rw [bldA, if_neg (by omega), if_neg h2] at hB
 have hs : schB (thrL p.rules).length sch := Classical.not_not.1 fun hh => h2 (.inl hh)
 have hok := sysB_ok (chk_prop hk) hs number
 obtain ⟨t, ht⟩ : ∃ t, t = sysB p q sch number := ⟨_, rfl⟩
 have hB : PSpec Tryz.prog 23 [.agg (encP p), .agg (encQ q), .sl 0 encI sch, .int .i64 number] (fun u => u = .tup [.agg (encSy t), .int .i64 0]) := by
  rw [ht]
  exact hB
 rw [← ht] at he hok
 clear ht
 (refine oP (hB) ?_; conv => whnf)
 repeat' ((first|refine nI ?_|refine aI ?_|refine tI ?_|refine fI ?_|fail);conv => whnf)
 refine WPc.loopF tt_ok mx_ok (fun i : Nat => i ≤ 3 ∧ (fixT t (szV s) i).2 = 0) (fun i => [(16, .int .i64 (i : Int)), (14, .int .i64 0)]) (fun i => [(10, .box 56 [.int .i64 0, .nilsl]), (13, .box 56 (encSy (fixT t (szV s) i).1)), (43, .row 3 0 encI (szV s))]) (fun i => 3 - i) 0 ⟨Nat.zero_le _, rfl⟩ ?_; conv => whnf
 refine ⟨sI, ?_⟩
 rintro i ⟨hi, hz⟩
 have hv := fixT_ok (vals := szV s) hok hz
 conv => whnf
 refine cmpI ?_ ?_ <;> (intro h3; conv => whnf)
 ·first | refine dI ?_ | refine drawO (by decide +kernel) ?_ | refine drawG (by decide +kernel) ?_
  conv => whnf
  refine needI (by show 0 ≤ (i : Int) ∧ (i : Int) < ((szV s).length : Int); show 0 ≤ (i : Int) ∧ (i : Int) < 3; omega) ?_
  rw [tN]
  conv => whnf
  obtain ⟨hA0, hA1⟩ := sub_ans 55 (SubstituteR (fixT t (szV s) i).1 i ((szV s).getD i 0) (okS_valid hv))
  by_cases hs0 : subE (fixT t (szV s) i).1 i ((szV s).getD i 0) = 0
  ·(refine oC (hA0 hs0) ?_; conv => whnf)
   repeat' ((first|refine nI ?_|refine aI ?_|refine tI ?_|refine fI ?_|fail);conv => whnf)
   refine ⟨i + 1, ?_, ⟨by omega, ?_⟩, by dsimp only; omega⟩
   ·dsimp only
    rw [fixT_up hz]
    exact sI
   ·rw [fixT_up hz, subX_e]
    exact hs0
  ·have h5 := fixT_last hz hs0 (show i < 3 by omega)
   rw [if_pos (by rw [h5]; exact hs0), h5] at he
   have hA := hA1 hs0
   rw [subX_e] at hA
   (refine oC (hA) ?_; conv => whnf)
   refine cmpT hs0 ?_
   conv => whnf
   exact ⟨he.symm, rfl⟩
 ·obtain rfl : i = 3 := by omega
  rw [if_neg (fun x => x hz)] at he
  exact ⟨he.symm, rfl⟩
theorem lawFixes (p : Pro) (q : Prp) (hp : okP p) (hq : okQ q) (sch : List Int) (hl : sch.length ≤ 140737488355328) (number : Int) (s : Siz) :
  PSpec Tryz.prog 6 [.agg (encPQ p q), .agg (encPt sch number), .agg (encZ s)] (fun u => u = .bool true) := by
 have hF := FixF p q hp hq sch hl number s
 have hR := FixR p q hp hq sch hl number s
 have hs := saneF
 have hX : (∃ e : Int, fixA p q sch number s = .tup [.agg [.int .i64 0, .nilsl], .int .i64 e]) ∨ ∃ t : LSys, fixA p q sch number s = .tup [.agg [.int .i64 t.vars, .sl row0 encRw t.rows], .int .i64 0] ∧ PSpec Tryz.prog 24 [.agg [.int .i64 t.vars, .sl row0 encRw t.rows], .agg [.int .i64 t.vars, .sl row0 encRw t.rows]] (fun u => u = .bool true) := by
  unfold fixA
  by_cases h : lszE p q s ≠ 0
  ·rw [if_pos h]
   exact .inl ⟨_, rfl⟩
  rw [if_neg h]
  by_cases h2 : ¬ schB (thrL p.rules).length sch ∨ number < -1 ∨ (csN p q : Int) ≤ number
  ·rw [if_pos h2]
   exact .inl ⟨_, rfl⟩
  rw [if_neg h2]
  by_cases h3 : (fixT (sysB p q sch number) (szV s) 3).2 ≠ 0
  ·rw [if_pos h3]
   exact .inl ⟨_, rfl⟩
  rw [if_neg h3]
  have hk := lsz_chk (Classical.not_not.1 h)
  have hok := sysB_ok (chk_prop hk) (Classical.not_not.1 fun hh => h2 (.inl hh)) number
  have hv := fixT_ok (vals := szV s) hok (Classical.not_not.1 h3)
  obtain ⟨a1, a2, a3, a4⟩ := sysE_ok hv
  exact .inr ⟨_, rfl, sameSysR _ (by omega) (fun k hk => by have := a2 k hk; omega)⟩
 rcases hX with ⟨e, hX⟩ | ⟨t, hX, hS⟩
 all_goals
  rw [hX] at hF hR
  clear hX
  refine PSpec.intro tt_ok mx_ok Tryz.func6 rfl (by decide) ?_; (conv => whnf)
  refine boxP rfl ?_
  conv => whnf
  refine boxP rfl ?_
  conv => whnf
  refine boxP rfl ?_
  conv => whnf
  apply once6
  case k =>
   intro o1 o2 o3 o4 o5 o6
   refine drawC [0, 1, 2, 3] (by decide +kernel) ?_
   conv => whnf
   repeat' first
    |exact True.intro
    |(refine And.intro ?_ ?_ <;> conv => whnf)
    |with_reducible exact o1
    |with_reducible exact o2
    |with_reducible exact o3
    |with_reducible exact o4
    |with_reducible exact o5
    |with_reducible exact o6
    |fail
  all_goals try first
   |exact True.intro
   |exact True
 iterate 2
  ·refine dI ?_
   conv => whnf
   (refine oP (hF) ?_; conv => whnf)
   (refine oP (hR) ?_; conv => whnf)
   repeat' ((first|refine nI ?_|refine aI ?_|refine tI ?_|refine fI ?_|fail);conv => whnf)
   (refine oP (sameSysN) ?_; conv => whnf)
   repeat' ((first|refine nI ?_|refine aI ?_|refine tI ?_|refine fI ?_|fail);conv => whnf)
   (refine oP (hs) ?_; conv => whnf)
   exact ⟨rfl, rfl⟩
 iterate 2
  ·refine dI ?_
   conv => whnf
   (refine oP (hF) ?_; conv => whnf)
   (refine oP (hR) ?_; conv => whnf)
   repeat' ((first|refine nI ?_|refine aI ?_|refine tI ?_|refine fI ?_|fail);conv => whnf)
   (refine oP (hS) ?_; conv => whnf)
   repeat' ((first|refine nI ?_|refine aI ?_|refine tI ?_|refine fI ?_|fail);conv => whnf)
   (refine oP (hs) ?_; conv => whnf)
   exact ⟨rfl, rfl⟩
end Go.Proofs.YtfoplfpbjajljaaGreatDoor
