import Derived.Test.YtfoplfpbjajljaaDoorFzP
import Derived.Test.YtfoplfpbjajljaaDoorY1
import Derived.Test.YtfoplfpbjajljaaDoorX1
import Derived.Test.YtfoplfpbjajljaaDoorRdJ
set_option linter.unusedVariables false
set_option linter.unusedSimpArgs false
namespace Go.Proofs.YtfoplfpbjajljaaDoor
set_option maxRecDepth 100000
set_option maxHeartbeats 16000000
def lowN (c n : Int) : Nat := ((IntKind.u64.wrap c).tmod n).toNat
theorem wrapU (c : Int) : 0 ≤ IntKind.u64.wrap c ∧ IntKind.u64.wrap c ≤ 18446744073709551615 := by
 have e : IntKind.u64.wrap c = c % 18446744073709551616 := by simp [IntKind.wrap, IntKind.signed, IntKind.bits]
 rw [e]; omega
theorem lowN_b {c n : Int} (hn : 0 < n) : (lowN c n : Int) = (IntKind.u64.wrap c).tmod n ∧ (lowN c n : Int) < n := by
 have h0 := (wrapU c).1
 have h1 : 0 ≤ (IntKind.u64.wrap c).tmod n := Int.tmod_nonneg _ h0
 have h2 : (IntKind.u64.wrap c).tmod n < n := Int.tmod_lt_of_pos _ hn
 unfold lowN
 omega
theorem LowF (c n : Int) (hn : 1 ≤ n ∧ n ≤ 140737488355328) : PSpec Tryd.prog 6 [.int .i64 c, .int .i64 n] (fun u => u = .int .i64 (lowN c n : Int)) := by
 have hb := lowN_b (c := c) (n := n) (by omega)
 refine PSpec.intro tt_ok mx_ok Tryd.func6 rfl (by decide) ?_; (conv => whnf)
 refine fI ?_
 conv => whnf
 refine arW trivial ?_
 conv => whnf
 refine arU trivial (by omega) ?_
 conv => whnf
 refine nI ?_
 conv => whnf
 refine aI ?_
 conv => whnf
 exact ⟨avI hb.1.symm, rfl⟩
theorem lawPrefixes (p : Pro) (q : Prp) (hp : okP p) (hq : okQ q) (sch : List Int) (hl : sch.length ≤ 140737488355328) (cut : Int) (x : List Int) (hx : x.length ≤ 140737488355328) :
  PSpec Tryd.prog 3 [.agg (encPQ p q), .agg (encPt sch cut), .sl 0 encI x] (fun u => u = .bool true) := by
 have hs := saneF
 refine PSpec.intro tt_ok mx_ok Tryd.func3 rfl (by decide) ?_; (conv => whnf)
 refine boxP rfl ?_
 conv => whnf
 refine boxP rfl ?_
 conv => whnf
 apply once6
 case k =>
  intro o1 o2 o3 o4 o5 o6
  refine drawC [0, 1, 2, 3] (by decide +kernel) ?_
  conv => whnf
  repeat' first
   |exact True.intro
   |(refine And.intro ?_ ?_ <;> conv => whnf)
   |with_reducible exact o1
   |with_reducible exact o2
   |with_reducible exact o3
   |with_reducible exact o4
   |with_reducible exact o5
   |with_reducible exact o6
   |fail
 all_goals try first
  |exact True.intro
  |exact True
 all_goals
  refine dI ?_
  conv => whnf
  by_cases hz : (sch.length : Int) = 0
  ·refine cmpT hz ?_
   conv => whnf
   (refine oP (hs) ?_; conv => whnf)
   exact ⟨rfl, rfl⟩
  refine cmpF hz ?_
  conv => whnf
  have hL := LowF cut sch.length (by omega)
  have hK := (lowN_b (c := cut) (n := sch.length) (by omega)).2
  generalize lowN cut sch.length = K at hL hK
  have hlt : (sch.take K).length ≤ 140737488355328 := by rw [List.length_take]; omega
  have hA := BuildF p q hp hq sch hl (-1)
  have hB := BuildF p q hp hq (sch.take K) hlt (-1)
  have hV := VariablesF p q hp hq sch hl
  have hc0 : 0 < csN p q := by
   unfold csN
   split
   ·exact csK_pos _ _
   ·omega
  (refine oP (hL) ?_; conv => whnf)
  by_cases h : chkE p q = 0
  ·have hneg : ∀ l : List Int, schB (thrL p.rules).length l → ¬ (¬ schB (thrL p.rules).length l ∨ (-1 : Int) < -1 ∨ (csN p q : Int) ≤ -1) := fun l hl hh => by
    rcases hh with hh | hh | hh
    ·exact hh hl
    ·omega
    ·omega
   by_cases h2 : schB (thrL p.rules).length sch
   ·have h0 := chk_prop h
    have h2k := sch_take h2 K
    rw [bldA, if_neg (by omega), if_neg (hneg _ h2)] at hA
    rw [bldA, if_neg (by omega), if_neg (hneg _ h2k)] at hB
    rw [varA, if_neg (by omega), if_neg (fun hh => hh h2)] at hV
    have hv := varL_len h0 h2
    have hSA := SatisfiesF (sysB p q sch (-1)) x (okS_valid (sysB_ok h0 h2 (-1))) hx
    have hSB := fun (y : List Int) (hy : y.length ≤ 140737488355328) => SatisfiesF (sysB p q (sch.take K) (-1)) y (okS_valid (sysB_ok h0 h2k (-1))) hy
    have hpl := fun (hh : satB (sysB p q sch (-1)) x) => preX_sat h0 h2 (k := K) (by omega) hh
    have hxl := fun (hh : satB (sysB p q sch (-1)) x) => (show x.length = (varL p q sch).length by
     have := hh.2.1
     unfold sysB at this
     dsimp only at this
     omega)
    have hpre := preX_len (varL p q sch) K x
    have hpu : ∀ i : Nat, preX (varL p q sch) K x (i + 1) = if preB K ((varL p q sch).getD i vb0) = true then preX (varL p q sch) K x i ++ [x.getD i 0] else preX (varL p q sch) K x i := fun i => rfl
    unfold encSy sysB at hSA hSB
    dsimp only at hSA hSB
    (refine oP (hA) ?_; conv => whnf)
    first | refine dI ?_ | refine drawG (by decide +kernel) ?_ | refine drawO (by decide +kernel) ?_
    conv => whnf
    first | (refine sliceC ?_; conv => whnf) | skip
    refine nI ?_
    rw [tN]
    conv => whnf
    (refine oC (hB) ?_; conv => whnf)
    (refine oP (hV) ?_; conv => whnf)
    repeat' ((first|refine nI ?_|refine aI ?_|refine tI ?_|refine fI ?_|fail);conv => whnf)
    refine dC (hSA) (fun _ => ?_) (fun _ => ?_) <;> (conv => whnf)
    rotate_left
    ·(refine oP (hs) ?_; conv => whnf)
     exact ⟨rfl, rfl⟩
    rename_i hsat
    have hx2 := hxl hsat
    refine WPc.loopF tt_ok mx_ok (fun i : Nat => i ≤ (varL p q sch).length) (fun i => [(19, .int .i64 (i : Int)), (18, .row 1000 (preX (varL p q sch) K x i).length 1)]) (fun i => [(7, .box 27 (encP p)), (8, .box 30 (encQ q)), (12, .box 39 [.int .i64 (varL p q sch).length, .sl row0 encRw (rowsB p q sch (-1))]), (14, .box 39 [.int .i64 (varL p q (sch.take K)).length, .sl row0 encRw (rowsB p q (sch.take K) (-1))]), (1000, .row 3 0 encI (preX (varL p q sch) K x i))]) (fun i => (varL p q sch).length - i) 0 (Nat.zero_le _) ?_; conv => whnf
    refine ⟨Sub.by_ [(7, .old 7), (8, .old 8), (12, .old 12), (14, .old 14), (1000, .nil 1)] _ 400 rfl (auto_) (auto_), ?_⟩
    rintro i hi
    have hpi := hpre i
    have hui := hpu i
    conv => whnf
    refine cmpI ?_ ?_ <;> (intro g1; conv => whnf)
    ·have hlt : i < (varL p q sch).length := by omega
     have yes : preB K ((varL p q sch).getD i vb0) = true → preX (varL p q sch) K x (i + 1) = preX (varL p q sch) K x i ++ [x.getD i 0] := fun hh => by rw [hui, if_pos hh]
     have no : ¬ preB K ((varL p q sch).getD i vb0) = true → preX (varL p q sch) K x (i + 1) = preX (varL p q sch) K x i := fun hh => by rw [hui, if_neg hh]
     refine nI ?_
     rw [tN]
     conv => whnf
     refine cmpI ?_ ?_ <;> (intro g2; conv => whnf)
     ·refine nI ?_
      rw [tN]
      conv => whnf
      refine appI [x.getD i 0] rfl lI ?_
      conv => whnf
      repeat' ((first|refine nI ?_|refine aI ?_|refine arU trivial (by omega) ?_|refine arB trivial (by omega) ?_|refine dI ?_|refine dR ?_|refine dP ?_|refine boxP rfl ?_|refine pI _ rfl ?_|refine rowSetI _ rfl ?_|refine tI ?_|refine fI ?_|refine cmpI (fun _ => ?_) (fun _ => ?_)) <;> conv => whnf)
      refine ⟨i + 1, ?_, by omega, by dsimp only; omega⟩
      dsimp only
      rw [yes (by unfold preB; exact decide_eq_true (.inl g2))]
      exact Sub.by_ [(7, .old 7), (8, .old 8), (12, .old 12), (14, .old 14), (1000, .old 103)] _ 400 rfl (auto_) (auto_)
     ·refine nI ?_
      rw [tN]
      conv => whnf
      refine cmpI ?_ ?_ <;> (intro g3; conv => whnf)
      ·refine nI ?_
       rw [tN]
       conv => whnf
       refine appI [x.getD i 0] rfl lI ?_
       conv => whnf
       repeat' ((first|refine nI ?_|refine aI ?_|refine arU trivial (by omega) ?_|refine arB trivial (by omega) ?_|refine dI ?_|refine dR ?_|refine dP ?_|refine boxP rfl ?_|refine pI _ rfl ?_|refine rowSetI _ rfl ?_|refine tI ?_|refine fI ?_|refine cmpI (fun _ => ?_) (fun _ => ?_)) <;> conv => whnf)
       refine ⟨i + 1, ?_, by omega, by dsimp only; omega⟩
       dsimp only
       rw [yes (by unfold preB; exact decide_eq_true (.inr g3))]
       exact Sub.by_ [(7, .old 7), (8, .old 8), (12, .old 12), (14, .old 14), (1000, .old 103)] _ 400 rfl (auto_) (auto_)
      ·repeat' ((first|refine nI ?_|refine aI ?_|refine arU trivial (by omega) ?_|refine arB trivial (by omega) ?_|refine dI ?_|refine dR ?_|refine dP ?_|refine boxP rfl ?_|refine pI _ rfl ?_|refine rowSetI _ rfl ?_|refine tI ?_|refine fI ?_|refine cmpI (fun _ => ?_) (fun _ => ?_)) <;> conv => whnf)
       refine ⟨i + 1, ?_, by omega, by dsimp only; omega⟩
       dsimp only
       rw [no (by unfold preB; intro hh; rcases of_decide_eq_true hh with hh | hh; exact g2 hh; exact g3 hh)]
       exact Sub.by_ [(7, .old 7), (8, .old 8), (12, .old 12), (14, .old 14), (1000, .old 1000)] _ 400 rfl (auto_) (auto_)
    ·obtain rfl : i = (varL p q sch).length := by omega
     have hT := hSB (preX (varL p q sch) K x (varL p q sch).length) (by omega)
     rw [show decide (satB ⟨((varL p q (sch.take K)).length : Int), rowsB p q (sch.take K) (-1)⟩ (preX (varL p q sch) K x (varL p q sch).length)) = true from decide_eq_true (hpl hsat)] at hT
     (refine Spec.borrow (n := 5) (hT) rfl (by rintro _ rfl; rfl) ?_; rintro _ rfl; conv => whnf)
     (refine oP (hs) ?_; conv => whnf)
     exact ⟨rfl, rfl⟩
   ·rw [bldA, if_neg (by omega), if_pos (.inl h2)] at hA
    rw [varA, if_neg (by omega), if_pos h2] at hV
    by_cases h2k : schB (thrL p.rules).length (sch.take K)
    ·rw [bldA, if_neg (by omega), if_neg (hneg _ h2k)] at hB
     (refine oP (hA) ?_; conv => whnf)
     first | refine dI ?_ | refine drawG (by decide +kernel) ?_ | refine drawO (by decide +kernel) ?_
     conv => whnf
     first | (refine sliceC ?_; conv => whnf) | skip
     refine nI ?_
     rw [tN]
     conv => whnf
     (refine oC (hB) ?_; conv => whnf)
     (refine oP (hV) ?_; conv => whnf)
     repeat' ((first|refine nI ?_|refine aI ?_|refine tI ?_|refine fI ?_|fail);conv => whnf)
     (refine oP (hs) ?_; conv => whnf)
     exact ⟨rfl, rfl⟩
    ·rw [bldA, if_neg (by omega), if_pos (.inl h2k)] at hB
     (refine oP (hA) ?_; conv => whnf)
     first | refine dI ?_ | refine drawG (by decide +kernel) ?_ | refine drawO (by decide +kernel) ?_
     conv => whnf
     first | (refine sliceC ?_; conv => whnf) | skip
     refine nI ?_
     rw [tN]
     conv => whnf
     (refine oC (hB) ?_; conv => whnf)
     (refine oP (hV) ?_; conv => whnf)
     repeat' ((first|refine nI ?_|refine aI ?_|refine tI ?_|refine fI ?_|fail);conv => whnf)
     (refine oP (hs) ?_; conv => whnf)
     exact ⟨rfl, rfl⟩
  ·rw [bldA, if_pos h] at hA hB
   rw [varA, if_pos h] at hV
   (refine oP (hA) ?_; conv => whnf)
   first | refine dI ?_ | refine drawG (by decide +kernel) ?_ | refine drawO (by decide +kernel) ?_
   conv => whnf
   first | (refine sliceC ?_; conv => whnf) | skip
   refine nI ?_
   rw [tN]
   conv => whnf
   (refine oC (hB) ?_; conv => whnf)
   (refine oP (hV) ?_; conv => whnf)
   repeat' ((first|refine nI ?_|refine aI ?_|refine tI ?_|refine fI ?_|fail);conv => whnf)
   (refine oP (hs) ?_; conv => whnf)
   exact ⟨rfl, rfl⟩
end Go.Proofs.YtfoplfpbjajljaaDoor
