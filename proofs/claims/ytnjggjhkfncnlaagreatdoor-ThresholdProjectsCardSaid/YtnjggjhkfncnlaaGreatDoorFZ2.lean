import Derived.Test.YtnjggjhkfncnlaaGreatDoorW3
import Derived.Test.YtnjggjhkfncnlaaGreatDoorM3
import Derived.Test.YtnjggjhkfncnlaaGreatDoorW0
set_option linter.unusedVariables false
set_option linter.unusedSimpArgs false
namespace Go.Proofs.YtnjggjhkfncnlaaGreatDoor
set_option maxRecDepth 100000
set_option maxHeartbeats 16000000
def szdE (p : Pro) (s : Siz) : Int:=if ¬ admB p s then 8 else if 8 < s.n then 4 else 0
def lszE (p : Pro) (q : Prp) (s : Siz) : Int:=if propE p q ≠ 0 then propE p q else if szdE p s ≠ 0 then szdE p s else chkE p q
theorem sizedF (p : Pro) (s : Siz) (hp : okP p) (hv : validE p = 0) : PSpec Tryz.prog 65 [.agg (encP p), .agg (encZ s)] (fun u=>u = .int .i64 (szdE p s)):=by
 have hb:=not_big hv
 have hV:=validateF p hp
 rw [hv] at hV
 refine PSpec.intro tt_ok mx_ok Tryz.func65 rfl (by decide) ?_; (conv=>whnf)
 refine boxP rfl ?_
 conv=>whnf
 refine boxP rfl ?_
 conv=>whnf
 (refine oP (hV) ?_; conv=>whnf)
 repeat' ((first|refine nI ?_|refine aI ?_|refine tI ?_|refine fI ?_|fail);conv=>whnf)
 refine dC (admissibleF p s hb hv) (fun _=>?_) (fun _=>?_) <;> (conv=>whnf)
 ·rename_i h
  refine cmpI ?_ ?_ <;> (intro h2; conv=>whnf)
  ·exact ⟨avI (by unfold szdE; rw [if_neg (fun x=>x h), if_pos (by omega)]), rfl⟩
  ·exact ⟨avI (by unfold szdE; rw [if_neg (fun x=>x h), if_neg (by omega)]), rfl⟩
 ·rename_i h
  exact ⟨avI (by unfold szdE; rw [if_pos h]), rfl⟩
theorem loadSizedF (p : Pro) (q : Prp) (s : Siz) (hp : okP p) (hq : okQ q) : PSpec Tryz.prog 17 [.agg (encP p), .agg (encQ q), .agg (encZ s)] (fun u=>u = if lszE p q s = 0 then .tup [.pd (famC p q), .int .i64 0] else .tup [.val (.pointer none), .int .i64 (lszE p q s)]):=by
 refine PSpec.intro tt_ok mx_ok Tryz.func17 rfl (by decide) ?_; (conv=>whnf)
 refine boxP rfl ?_
 conv=>whnf
 refine boxP rfl ?_
 conv=>whnf
 refine boxP rfl ?_
 conv=>whnf
 (refine oP (propertyF p q hp hq) ?_; conv=>whnf)
 refine cmpI ?_ ?_ <;> (intro h; conv=>whnf)
 ·have e : lszE p q s = propE p q:=by unfold lszE; rw [if_pos h]
  rw [e, if_neg h]
  exact ⟨rfl, rfl⟩
 have h0 : propE p q = 0:=Classical.not_not.1 h
 (refine oP (sizedF p s hp (vlq_of h0).vld) ?_; conv=>whnf)
 refine cmpI ?_ ?_ <;> (intro h1; conv=>whnf)
 ·have e : lszE p q s = szdE p s:=by unfold lszE; rw [if_neg h, if_pos h1]
  rw [e, if_neg h1]
  exact ⟨rfl, rfl⟩
 have e : lszE p q s = chkE p q:=by unfold lszE; rw [if_neg h, if_neg h1]
 rw [e]
 refine Spec.of_pure (n:=5) (loadF p q hp hq) (by rfl) ?_
 rintro _ rfl
 by_cases h2 : chkE p q = 0
 ·rw [if_pos h2, loadA_z h2]
  conv=>whnf
  exact ⟨rfl, rfl⟩
 ·rw [if_neg h2, loadA_e rfl h2]
  conv=>whnf
  exact ⟨rfl, rfl⟩
theorem lsz_chk {p : Pro} {q : Prp} {s : Siz} (h : lszE p q s = 0) : chkE p q = 0:=by
 unfold lszE at h
 by_cases h1 : propE p q ≠ 0
 ·rw [if_pos h1] at h; exact absurd h h1
 ·rw [if_neg h1] at h
  by_cases h2 : szdE p s ≠ 0
  ·rw [if_pos h2] at h; exact absurd h h2
  ·rw [if_neg h2] at h; exact h
theorem Admissible2 (p : Pro) (s : Siz) (hp : okP p) (hv : validE p = 0) : PSpec Tryz.prog 147 [.agg (encP p), .agg (encZ s)] (fun u=>u = .bool (decide (admB p s))):=by
 have hV:=validateR p hp
 rw [hv] at hV
 refine PSpec.intro tt_ok mx_ok Tryz.func147 rfl (by decide) ?_; (conv=>whnf)
 refine boxP rfl ?_
 conv=>whnf
 refine boxP rfl ?_
 conv=>whnf
 (refine oP (hV) ?_; conv=>whnf)
 repeat' ((first|refine nI ?_|refine aI ?_|refine tI ?_|refine fI ?_|fail);conv=>whnf)
 refine dC (admissibleR p s (not_big hv) (validE_res hv)) (fun _=>?_) (fun _=>?_) <;> (conv=>whnf)
 ·rename_i h; exact ⟨dec_t h, rfl⟩
 ·rename_i h; exact ⟨dec_f h, rfl⟩
theorem Sized4 (p : Pro) (s : Siz) (hp : okP p) (hv : validE p = 0) : PSpec Tryz.prog 74 [.agg (encP p), .agg (encZ s)] (fun u=>u = .int .i64 (szdE p s)):=by
 refine PSpec.intro tt_ok mx_ok Tryz.func74 rfl (by decide) ?_; (conv=>whnf)
 refine boxP rfl ?_
 conv=>whnf
 refine boxP rfl ?_
 conv=>whnf
 refine dC (Admissible2 p s hp hv) (fun _=>?_) (fun _=>?_) <;> (conv=>whnf)
 ·rename_i h
  refine cmpI ?_ ?_ <;> (intro h2; conv=>whnf)
  ·exact ⟨avI (by unfold szdE; rw [if_neg (fun x=>x h), if_pos (by omega)]), rfl⟩
  ·exact ⟨avI (by unfold szdE; rw [if_neg (fun x=>x h), if_neg (by omega)]), rfl⟩
 ·rename_i h
  exact ⟨avI (by unfold szdE; rw [if_pos h]), rfl⟩
theorem checkedR (p : Pro) (q : Prp) (s : Siz) (hp : okP p) (hq : okQ q) : PSpec Tryz.prog 23 [.agg (encP p), .agg (encQ q), .agg (encZ s)] (fun u=>u = .int .i64 (lszE p q s)):=by
 refine PSpec.intro tt_ok mx_ok Tryz.func23 rfl (by decide) ?_; (conv=>whnf)
 refine boxP rfl ?_
 conv=>whnf
 refine boxP rfl ?_
 conv=>whnf
 refine boxP rfl ?_
 conv=>whnf
 (refine oP (propertyR p q hp hq) ?_; conv=>whnf)
 refine cmpI ?_ ?_ <;> (intro h; conv=>whnf)
 ·exact ⟨avI (by unfold lszE; rw [if_pos h]), rfl⟩
 have h0 : propE p q = 0:=Classical.not_not.1 h
 (refine oP (Sized4 p s hp (vlq_of h0).vld) ?_; conv=>whnf)
 refine cmpI ?_ ?_ <;> (intro h1; conv=>whnf)
 ·exact ⟨avI (by unfold lszE; rw [if_neg h, if_pos h1]), rfl⟩
 (refine oP (CheckR p q hp hq) ?_; conv=>whnf)
 exact ⟨avI (by unfold lszE; rw [if_neg h, if_neg h1]), rfl⟩
end Go.Proofs.YtnjggjhkfncnlaaGreatDoor
