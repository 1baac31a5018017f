import Derived.Test.YtfoplfpbjajljaaGreatDoorFwH
set_option linter.unusedVariables false
set_option linter.unusedSimpArgs false
namespace Go.Proofs.YtfoplfpbjajljaaGreatDoor
set_option maxRecDepth 100000
set_option maxHeartbeats 16000000
def rowVr (l : List Vb) : Blk := .row 80 vb0 encVb l
theorem variablesR (p : Pro) (q : Prp) (hp : okP p) (hq : okQ q) (hv : propE p q = 0) (sch : List Int) (hs : schB (thrL p.rules).length sch) : PSpec Tryz.prog 34 [.agg (encP p), .agg (encQ q), .sl 0 encI sch] (fun u => u = .sl vb0 encVb (varL p q sch)) := by
 have w := vld_of (vlq_of hv).vld
 have hle := w.len
 have hT := w.thr
 have hsl := sch_len hs
 have hst : (stL' p q).length ≤ 6 := by
  have a := set_len (vlq_of hv).start
  have b := set_len w.ini.1
  unfold stL'; split <;> omega
 have hil : p.initial.length ≤ 6 := by have b := set_len w.ini.1; omega
 refine PSpec.intro tt_ok mx_ok Tryz.func34 rfl (by decide) ?_; (conv => whnf)
 refine boxP rfl ?_
 conv => whnf
 refine boxP rfl ?_
 conv => whnf
 refine bldI vb0 encVb [⟨0, 0, 0⟩, ⟨1, 0, 0⟩, ⟨2, 0, 0⟩] rfl ?_
 conv => whnf
 (refine oP (startsT_R p q hp hq hv) ?_; conv => whnf)
 refine WPc.loopF tt_ok mx_ok (fun k : Nat => k ≤ (stL' p q).length) (fun k => [(17, .top), (10, .int .i64 (k : Int)), (7, .row 1000 (vaA p q k).length 3)]) (fun k => [(1000, rowVr (vaA p q k))]) (fun k => (stL' p q).length - k) 0 (Nat.zero_le _) ?_; conv => whnf
 refine ⟨Sub.by_ [(1000, .old 17)] _ 400 rfl (auto_) (auto_), ?_⟩
 rintro k hk
 conv => whnf
 refine cmpI ?_ ?_ <;> (intro h1; conv => whnf)
 ·have hlt : k < (stL' p q).length := by omega
  have hal := vaA_len hv k
  refine nI ?_
  rw [tN]
  conv => whnf
  refine bldI vb0 encVb [⟨3, 0, (stL' p q).getD k 0⟩] rfl ?_
  conv => whnf
  refine appI [⟨3, 0, (stL' p q).getD k 0⟩] rfl lI ?_
  conv => whnf
  repeat' ((first|refine nI ?_|refine aI ?_|refine tI ?_|refine fI ?_|fail);conv => whnf)
  refine ⟨k + 1, ?_, by omega, by dsimp only; omega⟩
  dsimp only
  rw [vaA_up p q hlt]
  exact Sub.by_ [(1000, .old 37)] _ 400 rfl (auto_) (auto_)
 obtain rfl : k = (stL' p q).length := by omega
 refine WPc.loopF tt_ok mx_ok (fun k : Nat => k ≤ p.initial.length ∧ (k ≠ 0 → whB p)) (fun k => [(11, .int .i64 (k : Int)), (7, .row 1000 (vaB p q k).length 3)]) (fun k => [(1000, rowVr (vaB p q k))]) (fun k => p.initial.length - k) 0 ⟨Nat.zero_le _, fun h => absurd rfl h⟩ ?_; conv => whnf
 refine ⟨by rw [show vaB p q 0 = vaA p q (stL' p q).length by unfold vaB; simp]; exact sI, ?_⟩
 rintro k ⟨hk2, hkw⟩
 conv => whnf
 refine cmpI ?_ ?_ <;> (intro h3; conv => whnf)
 ·have hlt : k < p.initial.length := by omega
  have hbl := vaB_len hv k
  refine dC (withholdingR p) (fun _ => ?_) (fun _ => ?_) <;> (conv => whnf)
  ·rename_i hw
   refine nI ?_
   rw [tN]
   conv => whnf
   refine bldI vb0 encVb [⟨4, 0, p.initial.getD k 0⟩] rfl ?_
   conv => whnf
   refine appI [⟨4, 0, p.initial.getD k 0⟩] rfl lI ?_
   conv => whnf
   repeat' ((first|refine nI ?_|refine aI ?_|refine tI ?_|refine fI ?_|fail);conv => whnf)
   refine ⟨k + 1, ?_, ⟨by omega, fun _ => hw⟩, by dsimp only; omega⟩
   dsimp only
   rw [vaB_up p q hlt]
   exact Sub.by_ [(1000, .old 57)] _ 400 rfl (auto_) (auto_)
  ·rename_i hw
   obtain rfl : k = 0 := Classical.byContradiction fun h => hw (hkw h)
   have hC : vaD p q sch 0 = vaB p q 0 := by unfold vaD vaC; rw [if_neg hw]; unfold vaB; simp
   refine WPc.loopF tt_ok mx_ok (fun j : Nat => j ≤ sch.length + 1) (fun j => [(12, .int .i64 (j : Int)), (7, .row 1000 (vaD p q sch j).length 3)]) (fun j => [(1000, rowVr (vaD p q sch j))]) (fun j => sch.length + 1 - j) 0 (Nat.zero_le _) ?_; conv => whnf
   refine ⟨by rw [hC]; exact sI, ?_⟩
   rintro j hj
   conv => whnf
   refine cmpI ?_ ?_ <;> (intro h1; conv => whnf)
   ·have hDl := vaD_len hv hs j hj
    refine WPc.loopF tt_ok mx_ok (fun r : Nat => r ≤ p.rules.length) (fun r => [(13, .int .i64 (r : Int)), (7, .row 1000 (vaD p q sch j ++ segV p sch j r).length 3)]) (fun r => [(1000, rowVr (vaD p q sch j ++ segV p sch j r))]) (fun r => p.rules.length - r) 0 (Nat.zero_le _) ?_; conv => whnf
    refine ⟨by rw [segV_zero]; exact sI, ?_⟩
    rintro r hr
    conv => whnf
    refine cmpI ?_ ?_ <;> (intro h2; conv => whnf)
    ·have hrl : r < p.rules.length := by omega
     have hsl := segV_len p sch j r
     have hll : (vaD p q sch j ++ segV p sch j r).length ≤ 1000 := by rw [List.length_append]; omega
     refine dI ?_
     conv => whnf
     refine nI ?_
     rw [tN]
     conv => whnf
     refine dD (allowedTR p hp (vlq_of hv).vld sch hs j (p.rules.getD r rul0) (guards_2' (vlq_of hv).vld r hrl) (by omega)) (fun _ => ?_) (fun _ => ?_) <;> (conv => whnf)
     ·rename_i ha
      refine bldI vb0 encVb [⟨5, j, r⟩] rfl ?_
      conv => whnf
      refine appI [⟨5, j, r⟩] rfl lI ?_
      conv => whnf
      refine dC (withholdingR p) (fun _ => ?_) (fun _ => ?_) <;> (conv => whnf)
      ·rename_i hw
       have e : vaD p q sch j ++ segV p sch j (r + 1) = vaD p q sch j ++ segV p sch j r ++ [⟨5, j, r⟩] ++ [⟨6, j, r⟩] := by
        rw [segV_up, ruV, if_pos ha, if_pos hw, List.append_assoc, List.append_assoc]; rfl
       refine bldI vb0 encVb [⟨6, j, r⟩] rfl ?_
       conv => whnf
       refine appI [⟨6, j, r⟩] rfl (by simp only [List.length_append, List.length_cons, List.length_nil] at hll ⊢; omega) ?_
       conv => whnf
       repeat' ((first|refine nI ?_|refine aI ?_|refine tI ?_|refine fI ?_|fail);conv => whnf)
       refine ⟨r + 1, ?_, by omega, by dsimp only; omega⟩
       dsimp only
       rw [e]
       exact Sub.by_ [(1000, .old 94)] _ 400 rfl (auto_) (auto_)
      ·rename_i hw
       have e : vaD p q sch j ++ segV p sch j (r + 1) = vaD p q sch j ++ segV p sch j r ++ [⟨5, j, r⟩] := by
        rw [segV_up, ruV, if_pos ha, if_neg hw, List.append_assoc]
       repeat' ((first|refine nI ?_|refine aI ?_|refine tI ?_|refine fI ?_|fail);conv => whnf)
       refine ⟨r + 1, ?_, by omega, by dsimp only; omega⟩
       dsimp only
       rw [e]
       exact Sub.by_ [(1000, .old 86)] _ 400 rfl (auto_) (auto_)
     ·rename_i ha
      have e : vaD p q sch j ++ segV p sch j (r + 1) = vaD p q sch j ++ segV p sch j r := by
       rw [segV_up, ruV, if_neg ha, List.append_nil]
      repeat' ((first|refine nI ?_|refine aI ?_|refine tI ?_|refine fI ?_|fail);conv => whnf)
      refine ⟨r + 1, ?_, by omega, by dsimp only; omega⟩
      dsimp only
      rw [e]
      exact sI
    ·obtain rfl : r = p.rules.length := by omega
     have e := vaD_up p q sch j
     repeat' ((first|refine nI ?_|refine aI ?_|refine tI ?_|refine fI ?_|fail);conv => whnf)
     refine ⟨j + 1, ?_, by omega, by dsimp only; omega⟩
     dsimp only
     rw [e]
     exact sI
   ·obtain rfl : j = sch.length + 1 := by omega
    rw [vaD_all]
    exact ⟨rfl, rfl⟩
 ·obtain rfl : k = p.initial.length := by omega
  have hini := w.ini.2.1
  have hw := hkw (by omega)
  have hC : vaD p q sch 0 = vaB p q p.initial.length := by unfold vaD vaC; rw [if_pos hw]; simp
  refine WPc.loopF tt_ok mx_ok (fun j : Nat => j ≤ sch.length + 1) (fun j => [(12, .int .i64 (j : Int)), (7, .row 1000 (vaD p q sch j).length 3)]) (fun j => [(1000, rowVr (vaD p q sch j))]) (fun j => sch.length + 1 - j) 0 (Nat.zero_le _) ?_; conv => whnf
  refine ⟨by rw [hC]; exact sI, ?_⟩
  rintro j hj
  conv => whnf
  refine cmpI ?_ ?_ <;> (intro h1; conv => whnf)
  ·have hDl := vaD_len hv hs j hj
   refine WPc.loopF tt_ok mx_ok (fun r : Nat => r ≤ p.rules.length) (fun r => [(13, .int .i64 (r : Int)), (7, .row 1000 (vaD p q sch j ++ segV p sch j r).length 3)]) (fun r => [(1000, rowVr (vaD p q sch j ++ segV p sch j r))]) (fun r => p.rules.length - r) 0 (Nat.zero_le _) ?_; conv => whnf
   refine ⟨by rw [segV_zero]; exact sI, ?_⟩
   rintro r hr
   conv => whnf
   refine cmpI ?_ ?_ <;> (intro h2; conv => whnf)
   ·have hrl : r < p.rules.length := by omega
    have hsl := segV_len p sch j r
    have hll : (vaD p q sch j ++ segV p sch j r).length ≤ 1000 := by rw [List.length_append]; omega
    refine dI ?_
    conv => whnf
    refine nI ?_
    rw [tN]
    conv => whnf
    refine dD (allowedTR p hp (vlq_of hv).vld sch hs j (p.rules.getD r rul0) (guards_2' (vlq_of hv).vld r hrl) (by omega)) (fun _ => ?_) (fun _ => ?_) <;> (conv => whnf)
    ·rename_i ha
     refine bldI vb0 encVb [⟨5, j, r⟩] rfl ?_
     conv => whnf
     refine appI [⟨5, j, r⟩] rfl lI ?_
     conv => whnf
     refine dC (withholdingR p) (fun _ => ?_) (fun _ => ?_) <;> (conv => whnf)
     ·rename_i hw
      have e : vaD p q sch j ++ segV p sch j (r + 1) = vaD p q sch j ++ segV p sch j r ++ [⟨5, j, r⟩] ++ [⟨6, j, r⟩] := by
       rw [segV_up, ruV, if_pos ha, if_pos hw, List.append_assoc, List.append_assoc]; rfl
      refine bldI vb0 encVb [⟨6, j, r⟩] rfl ?_
      conv => whnf
      refine appI [⟨6, j, r⟩] rfl (by simp only [List.length_append, List.length_cons, List.length_nil] at hll ⊢; omega) ?_
      conv => whnf
      repeat' ((first|refine nI ?_|refine aI ?_|refine tI ?_|refine fI ?_|fail);conv => whnf)
      refine ⟨r + 1, ?_, by omega, by dsimp only; omega⟩
      dsimp only
      rw [e]
      exact Sub.by_ [(1000, .old 94)] _ 400 rfl (auto_) (auto_)
     ·rename_i hw
      have e : vaD p q sch j ++ segV p sch j (r + 1) = vaD p q sch j ++ segV p sch j r ++ [⟨5, j, r⟩] := by
       rw [segV_up, ruV, if_pos ha, if_neg hw, List.append_assoc]
      repeat' ((first|refine nI ?_|refine aI ?_|refine tI ?_|refine fI ?_|fail);conv => whnf)
      refine ⟨r + 1, ?_, by omega, by dsimp only; omega⟩
      dsimp only
      rw [e]
      exact Sub.by_ [(1000, .old 86)] _ 400 rfl (auto_) (auto_)
    ·rename_i ha
     have e : vaD p q sch j ++ segV p sch j (r + 1) = vaD p q sch j ++ segV p sch j r := by
      rw [segV_up, ruV, if_neg ha, List.append_nil]
     repeat' ((first|refine nI ?_|refine aI ?_|refine tI ?_|refine fI ?_|fail);conv => whnf)
     refine ⟨r + 1, ?_, by omega, by dsimp only; omega⟩
     dsimp only
     rw [e]
     exact sI
   ·obtain rfl : r = p.rules.length := by omega
    have e := vaD_up p q sch j
    repeat' ((first|refine nI ?_|refine aI ?_|refine tI ?_|refine fI ?_|fail);conv => whnf)
    refine ⟨j + 1, ?_, by omega, by dsimp only; omega⟩
    dsimp only
    rw [e]
    exact sI
  ·obtain rfl : j = sch.length + 1 := by omega
   rw [vaD_all]
   exact ⟨rfl, rfl⟩
end Go.Proofs.YtfoplfpbjajljaaGreatDoor
