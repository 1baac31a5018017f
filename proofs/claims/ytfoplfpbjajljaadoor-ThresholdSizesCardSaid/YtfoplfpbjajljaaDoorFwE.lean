import Derived.Test.YtfoplfpbjajljaaDoorFwD
set_option linter.unusedVariables false
set_option linter.unusedSimpArgs false
namespace Go.Proofs.YtfoplfpbjajljaaDoor
set_option maxRecDepth 100000
set_option maxHeartbeats 16000000
theorem segV_zero (p : Pro) (sch : List Int) (j : Nat) (l : List Vb) : l ++ segV p sch j 0 = l := by simp [segV]
theorem vaA_len {p : Pro} {q : Prp} (hv : propE p q = 0) (k : Nat) : (vaA p q k).length ≤ 9 := by
 have h := vld_of (vlq_of hv).vld
 have a := set_len (vlq_of hv).start
 have b := set_len h.ini.1
 have c := h.len
 have d : (stL' p q).length ≤ 6 := by unfold stL'; split <;> omega
 unfold vaA
 simp only [List.length_append, List.length_cons, List.length_nil, List.length_map, List.length_take]
 omega
theorem vaB_len {p : Pro} {q : Prp} (hv : propE p q = 0) (k : Nat) : (vaB p q k).length ≤ 15 := by
 have h := vld_of (vlq_of hv).vld
 have a := vaA_len hv (stL' p q).length
 have b := set_len h.ini.1
 have c := h.len
 unfold vaB
 simp only [List.length_append, List.length_map, List.length_take]
 omega
theorem vaD_len {p : Pro} {q : Prp} (hv : propE p q = 0) {sch : List Int} (hs : schB (thrL p.rules).length sch) (j : Nat) (hj : j ≤ sch.length + 1) : (vaD p q sch j).length ≤ 79 := by
 have w := vld_of (vlq_of hv).vld
 have a : (vaC p q).length ≤ 15 := by
  unfold vaC
  split
  ·exact vaB_len hv _
  ·have := vaA_len hv (stL' p q).length; omega
 have b := segs_len p sch p.rules.length j
 have c := sch_len hs
 have d := w.thr
 have e := w.len
 have f : 2 * p.rules.length * j ≤ 16 * 4 := Nat.mul_le_mul (by omega) (by omega)
 unfold vaD
 rw [List.length_append]
 omega
theorem variablesF (p : Pro) (q : Prp) (hv : propE p q = 0) (sch : List Int) (hs : schB (thrL p.rules).length sch) : PSpec Tryd.prog 20 [.pd (famC p q), .sl 0 encI sch] (fun u => u = .sl vb0 encVb (varL p q sch)) := by
 have w := vld_of (vlq_of hv).vld
 have hle := w.len
 have hT := w.thr
 have hsl := sch_len hs
 have hst : (stL' p q).length ≤ 6 := by
  have a := set_len (vlq_of hv).start
  have b := set_len w.ini.1
  unfold stL'; split <;> omega
 have hil : p.initial.length ≤ 6 := by have b := set_len w.ini.1; omega
 refine PSpec.intro tt_ok mx_ok Tryd.func20 rfl (by decide) ?_; (conv => whnf)
 refine bldI vb0 encVb [⟨0, 0, 0⟩, ⟨1, 0, 0⟩, ⟨2, 0, 0⟩] rfl ?_
 conv => whnf
 refine WPc.loopF tt_ok mx_ok (fun k : Nat => k ≤ (stL' p q).length) (fun k => [(15, .top), (21, .int .i64 (k : Int)), (5, .row 1000 (vaA p q k).length 3)]) (fun k => [(1000, rowVb (vaA p q k))]) (fun k => (stL' p q).length - k) 0 (Nat.zero_le _) ?_; conv => whnf
 refine ⟨Sub.by_ [(1000, .old 15)] _ 400 rfl (auto_) (auto_), ?_⟩
 rintro k hk
 conv => whnf
 refine cmpI ?_ ?_ <;> (intro h1; conv => whnf)
 ·have hlt : k < (stL' p q).length := by omega
  have hal := vaA_len hv k
  refine nI ?_
  rw [tN]
  conv => whnf
  refine bldI vb0 encVb [⟨3, 0, (stL' p q).getD k 0⟩] rfl ?_
  conv => whnf
  refine appI [⟨3, 0, (stL' p q).getD k 0⟩] rfl lI ?_
  conv => whnf
  repeat' ((first|refine nI ?_|refine aI ?_|refine tI ?_|refine fI ?_|fail);conv => whnf)
  refine ⟨k + 1, ?_, by omega, by dsimp only; omega⟩
  dsimp only
  rw [vaA_up p q hlt]
  exact Sub.by_ [(1000, .old 29)] _ 400 rfl (auto_) (auto_)
 obtain rfl : k = (stL' p q).length := by omega
 refine dC (hasFaultyF p q) (fun _ => ?_) (fun _ => ?_) <;> (conv => whnf)
 ·rename_i hw
  have hC : vaD p q sch 0 = vaB p q p.initial.length := by unfold vaD vaC; rw [if_pos hw]; simp
  refine WPc.loopF tt_ok mx_ok (fun k : Nat => k ≤ p.initial.length) (fun k => [(39, .int .i64 (k : Int)), (5, .row 1000 (vaB p q k).length 3)]) (fun k => [(1000, rowVb (vaB p q k))]) (fun k => p.initial.length - k) 0 (Nat.zero_le _) ?_; conv => whnf
  refine ⟨by rw [show vaB p q 0 = vaA p q (stL' p q).length by unfold vaB; simp]; exact sI, ?_⟩
  rintro k hk2
  conv => whnf
  refine cmpI ?_ ?_ <;> (intro h3; conv => whnf)
  ·have hlt : k < p.initial.length := by omega
   have hbl := vaB_len hv k
   refine nI ?_
   rw [tN]
   conv => whnf
   refine bldI vb0 encVb [⟨4, 0, p.initial.getD k 0⟩] rfl ?_
   conv => whnf
   refine appI [⟨4, 0, p.initial.getD k 0⟩] rfl lI ?_
   conv => whnf
   repeat' ((first|refine nI ?_|refine aI ?_|refine tI ?_|refine fI ?_|fail);conv => whnf)
   refine ⟨k + 1, ?_, by omega, by dsimp only; omega⟩
   dsimp only
   rw [vaB_up p q hlt]
   exact Sub.by_ [(1000, .old 47)] _ 400 rfl (auto_) (auto_)
  obtain rfl : k = p.initial.length := by omega
  refine aI ?_
  conv => whnf
  refine WPc.loopF tt_ok mx_ok (fun j : Nat => j ≤ sch.length + 1) (fun j => [(52, .int .i64 (j : Int)), (5, .row 1000 (vaD p q sch j).length 3)]) (fun j => [(1000, rowVb (vaD p q sch j))]) (fun j => sch.length + 1 - j) 0 (Nat.zero_le _) ?_; conv => whnf
  refine ⟨by rw [hC]; exact sI, ?_⟩
  rintro j hj
  conv => whnf
  refine cmpI ?_ ?_ <;> (intro h1; conv => whnf)
  ·have hDl := vaD_len hv hs j hj
   refine WPc.loopF tt_ok mx_ok (fun r : Nat => r ≤ p.rules.length) (fun r => [(61, .int .i64 (r : Int)), (5, .row 1000 (vaD p q sch j ++ segV p sch j r).length 3)]) (fun r => [(1000, rowVb (vaD p q sch j ++ segV p sch j r))]) (fun r => p.rules.length - r) 0 (Nat.zero_le _) ?_; conv => whnf
   refine ⟨by rw [segV_zero]; exact sI, ?_⟩
   rintro r hr
   conv => whnf
   refine cmpI ?_ ?_ <;> (intro h2; conv => whnf)
   ·have hrl : r < p.rules.length := by omega
    have hsl := segV_len p sch j r
    have hll : (vaD p q sch j ++ segV p sch j r).length ≤ 1000 := by rw [List.length_append]; omega
    refine dC (allowedF p q (vlq_of hv).vld sch hs r j hrl (by omega)) (fun _ => ?_) (fun _ => ?_) <;> (conv => whnf)
    ·rename_i ha
     refine bldI vb0 encVb [⟨5, j, r⟩] rfl ?_
     conv => whnf
     refine appI [⟨5, j, r⟩] rfl lI ?_
     conv => whnf
     refine dC (hasFaultyF p q) (fun _ => ?_) (fun _ => ?_) <;> (conv => whnf)
     ·rename_i hw
      have e : vaD p q sch j ++ segV p sch j (r + 1) = vaD p q sch j ++ segV p sch j r ++ [⟨5, j, r⟩] ++ [⟨6, j, r⟩] := by
       rw [segV_up, ruV, if_pos ha, if_pos hw, List.append_assoc, List.append_assoc]; rfl
      refine bldI vb0 encVb [⟨6, j, r⟩] rfl ?_
      conv => whnf
      refine appI [⟨6, j, r⟩] rfl (by simp only [List.length_append, List.length_cons, List.length_nil] at hll ⊢; omega) ?_
      conv => whnf
      repeat' ((first|refine nI ?_|refine aI ?_|refine tI ?_|refine fI ?_|fail);conv => whnf)
      refine ⟨r + 1, ?_, by omega, by dsimp only; omega⟩
      dsimp only
      rw [e]
      exact Sub.by_ [(1000, .old 83)] _ 400 rfl (auto_) (auto_)
     ·rename_i hw
      have e : vaD p q sch j ++ segV p sch j (r + 1) = vaD p q sch j ++ segV p sch j r ++ [⟨5, j, r⟩] := by
       rw [segV_up, ruV, if_pos ha, if_neg hw, List.append_assoc]
      repeat' ((first|refine nI ?_|refine aI ?_|refine tI ?_|refine fI ?_|fail);conv => whnf)
      refine ⟨r + 1, ?_, by omega, by dsimp only; omega⟩
      dsimp only
      rw [e]
      exact Sub.by_ [(1000, .old 75)] _ 400 rfl (auto_) (auto_)
    ·rename_i ha
     have e : vaD p q sch j ++ segV p sch j (r + 1) = vaD p q sch j ++ segV p sch j r := by
      rw [segV_up, ruV, if_neg ha, List.append_nil]
     repeat' ((first|refine nI ?_|refine aI ?_|refine tI ?_|refine fI ?_|fail);conv => whnf)
     refine ⟨r + 1, ?_, by omega, by dsimp only; omega⟩
     dsimp only
     rw [e]
     exact sI
   ·obtain rfl : r = p.rules.length := by omega
    have e := vaD_up p q sch j
    repeat' ((first|refine nI ?_|refine aI ?_|refine tI ?_|refine fI ?_|fail);conv => whnf)
    refine ⟨j + 1, ?_, by omega, by dsimp only; omega⟩
    dsimp only
    rw [e]
    exact sI
  ·obtain rfl : j = sch.length + 1 := by omega
   rw [vaD_all]
   exact ⟨rfl, rfl⟩
 ·rename_i hw
  have hC : vaD p q sch 0 = vaA p q (stL' p q).length := by unfold vaD vaC; rw [if_neg hw]; simp
  refine aI ?_
  conv => whnf
  refine WPc.loopF tt_ok mx_ok (fun j : Nat => j ≤ sch.length + 1) (fun j => [(52, .int .i64 (j : Int)), (5, .row 1000 (vaD p q sch j).length 3)]) (fun j => [(1000, rowVb (vaD p q sch j))]) (fun j => sch.length + 1 - j) 0 (Nat.zero_le _) ?_; conv => whnf
  refine ⟨by rw [hC]; exact sI, ?_⟩
  rintro j hj
  conv => whnf
  refine cmpI ?_ ?_ <;> (intro h1; conv => whnf)
  ·have hDl := vaD_len hv hs j hj
   refine WPc.loopF tt_ok mx_ok (fun r : Nat => r ≤ p.rules.length) (fun r => [(61, .int .i64 (r : Int)), (5, .row 1000 (vaD p q sch j ++ segV p sch j r).length 3)]) (fun r => [(1000, rowVb (vaD p q sch j ++ segV p sch j r))]) (fun r => p.rules.length - r) 0 (Nat.zero_le _) ?_; conv => whnf
   refine ⟨by rw [segV_zero]; exact sI, ?_⟩
   rintro r hr
   conv => whnf
   refine cmpI ?_ ?_ <;> (intro h2; conv => whnf)
   ·have hrl : r < p.rules.length := by omega
    have hsl := segV_len p sch j r
    have hll : (vaD p q sch j ++ segV p sch j r).length ≤ 1000 := by rw [List.length_append]; omega
    refine dC (allowedF p q (vlq_of hv).vld sch hs r j hrl (by omega)) (fun _ => ?_) (fun _ => ?_) <;> (conv => whnf)
    ·rename_i ha
     refine bldI vb0 encVb [⟨5, j, r⟩] rfl ?_
     conv => whnf
     refine appI [⟨5, j, r⟩] rfl lI ?_
     conv => whnf
     refine dC (hasFaultyF p q) (fun _ => ?_) (fun _ => ?_) <;> (conv => whnf)
     ·rename_i hw
      have e : vaD p q sch j ++ segV p sch j (r + 1) = vaD p q sch j ++ segV p sch j r ++ [⟨5, j, r⟩] ++ [⟨6, j, r⟩] := by
       rw [segV_up, ruV, if_pos ha, if_pos hw, List.append_assoc, List.append_assoc]; rfl
      refine bldI vb0 encVb [⟨6, j, r⟩] rfl ?_
      conv => whnf
      refine appI [⟨6, j, r⟩] rfl (by simp only [List.length_append, List.length_cons, List.length_nil] at hll ⊢; omega) ?_
      conv => whnf
      repeat' ((first|refine nI ?_|refine aI ?_|refine tI ?_|refine fI ?_|fail);conv => whnf)
      refine ⟨r + 1, ?_, by omega, by dsimp only; omega⟩
      dsimp only
      rw [e]
      exact Sub.by_ [(1000, .old 83)] _ 400 rfl (auto_) (auto_)
     ·rename_i hw
      have e : vaD p q sch j ++ segV p sch j (r + 1) = vaD p q sch j ++ segV p sch j r ++ [⟨5, j, r⟩] := by
       rw [segV_up, ruV, if_pos ha, if_neg hw, List.append_assoc]
      repeat' ((first|refine nI ?_|refine aI ?_|refine tI ?_|refine fI ?_|fail);conv => whnf)
      refine ⟨r + 1, ?_, by omega, by dsimp only; omega⟩
      dsimp only
      rw [e]
      exact Sub.by_ [(1000, .old 75)] _ 400 rfl (auto_) (auto_)
    ·rename_i ha
     have e : vaD p q sch j ++ segV p sch j (r + 1) = vaD p q sch j ++ segV p sch j r := by
      rw [segV_up, ruV, if_neg ha, List.append_nil]
     repeat' ((first|refine nI ?_|refine aI ?_|refine tI ?_|refine fI ?_|fail);conv => whnf)
     refine ⟨r + 1, ?_, by omega, by dsimp only; omega⟩
     dsimp only
     rw [e]
     exact sI
   ·obtain rfl : r = p.rules.length := by omega
    have e := vaD_up p q sch j
    repeat' ((first|refine nI ?_|refine aI ?_|refine tI ?_|refine fI ?_|fail);conv => whnf)
    refine ⟨j + 1, ?_, by omega, by dsimp only; omega⟩
    dsimp only
    rw [e]
    exact sI
  ·obtain rfl : j = sch.length + 1 := by omega
   rw [vaD_all]
   exact ⟨rfl, rfl⟩
def varA (p : Pro) (q : Prp) (sch : List Int) : AV := if chkE p q ≠ 0 then .tup [.nilsl, .int .i64 (chkE p q)] else if ¬ schB (thrL p.rules).length sch then .tup [.nilsl, .int .i64 1] else .tup [.sl vb0 encVb (varL p q sch), .int .i64 0]
theorem chk_prop {p : Pro} {q : Prp} (h : chkE p q = 0) : propE p q = 0 := by
 refine Classical.byContradiction fun hh => ?_
 rw [chkE, if_pos hh] at h
 exact hh h
theorem chk_cls {p : Pro} {q : Prp} (h : chkE p q = 0) : thrB p ∧ scopeB p q := by
 have h1 := chk_prop h
 rw [chkE, if_neg (by omega)] at h
 refine Classical.byContradiction fun hh => ?_
 rw [if_pos hh] at h
 omega
theorem chk_cs {p : Pro} {q : Prp} (h : chkE p q = 0) : csN p q ≤ 64 := by
 have h1 := chk_prop h
 have h2 := chk_cls h
 rw [chkE, if_neg (by omega), if_neg (fun hh => hh h2)] at h
 refine Classical.byContradiction fun hh => ?_
 rw [if_pos (by omega)] at h
 omega
theorem VariablesF (p : Pro) (q : Prp) (hp : okP p) (hq : okQ q) (sch : List Int) (hl : sch.length ≤ 140737488355328) : PSpec Tryd.prog 8 [.agg (encP p), .agg (encQ q), .sl 0 encI sch] (fun u => u = varA p q sch) := by
 have he := varA.eq_1 p q sch
 refine PSpec.intro tt_ok mx_ok Tryd.func8 rfl (by decide) ?_; (conv => whnf)
 refine boxP rfl ?_
 conv => whnf
 refine boxP rfl ?_
 conv => whnf
 refine Spec.of_pure (n := 5) (loadF p q hp hq) (by rfl) ?_
 rintro _ rfl
 by_cases h : chkE p q = 0
 ·rw [if_neg (by omega)] at he
  rw [loadA_z h]
  conv => whnf
  refine fI ?_
  conv => whnf
  refine dC (isSchemaF p q sch hl) (fun _ => ?_) (fun _ => ?_) <;> (conv => whnf)
  ·rename_i hs
   rw [if_neg (fun hh => hh hs)] at he
   (refine oP (variablesF p q (chk_prop h) sch hs) ?_; conv => whnf)
   exact ⟨he.symm, rfl⟩
  ·rename_i hs
   rw [if_pos hs] at he
   exact ⟨he.symm, rfl⟩
 ·rw [if_pos h] at he
  rw [loadA_e rfl h]
  conv => whnf
  refine cmpT h ?_
  conv => whnf
  exact ⟨he.symm, rfl⟩
end Go.Proofs.YtfoplfpbjajljaaDoor
