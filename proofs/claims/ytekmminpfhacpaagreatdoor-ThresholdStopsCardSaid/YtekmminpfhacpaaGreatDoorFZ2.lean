import Derived.Test.YtekmminpfhacpaaGreatDoorW3
import Derived.Test.YtekmminpfhacpaaGreatDoorW0
set_option linter.unusedVariables false
set_option linter.unusedSimpArgs false
namespace Go.Proofs.YtekmminpfhacpaaGreatDoor
set_option maxRecDepth 100000
set_option maxHeartbeats 16000000
def r5 (p:an) (s:aC):Int:=if¬jA p s then 8 else if 8<s.n then 4 else 0
def lR (p:an) (q:aE) (s:aC):Int:=if aU p q≠0 then aU p q else if r5 p s≠0 then r5 p s else dl p q
theorem DI {p:an} {q:aE} {s:aC} (h:lR p q s=0):dl p q=0:=by
 unfold lR at h
 by_cases h1:aU p q≠0
 ·rw[if_pos h1] at h;exact absurd h h1
 ·rw[if_neg h1] at h
  by_cases h2:r5 p s≠0
  ·rw[if_pos h2] at h;exact absurd h h2
  ·rw[if_neg h2] at h;exact h
theorem ui (p:an) (s:aC) (hp:g7 p) (hv:aw p=0):ab Tryz.prog 226 [.agg (aB p), .agg (bv s)] (fun u=>u= .bool (decide (jA p s))):=by
 have hV:=f6 p hp
 rw[hv] at hV
 refine ab.intro ac ae Tryz.func226 rfl (by decide) ?_;(conv=>whnf)
 refine ak rfl ?_
 conv=>whnf
 refine ak rfl ?_
 conv=>whnf
 (refine oP (hV) ?_;conv=>whnf)
 repeat' ((first|refine nI ?_|refine aI ?_|refine tI ?_|refine fI ?_|fail);conv=>whnf)
 refine dC (jB p s (dE hv) (iV hv)) (fun _=>?_) (fun _=>?_)<;>(conv=>whnf)
 ·rename_i h;exact⟨av h,rfl⟩
 ·rename_i h;exact⟨al h,rfl⟩
theorem F1 (p:an) (s:aC) (hp:g7 p) (hv:aw p=0):ab Tryz.prog 143 [.agg (aB p), .agg (bv s)] (fun u=>u= .int .i64 (r5 p s)):=by
 refine ab.intro ac ae Tryz.func143 rfl (by decide) ?_;(conv=>whnf)
 refine ak rfl ?_
 conv=>whnf
 refine ak rfl ?_
 conv=>whnf
 refine dC (ui p s hp hv) (fun _=>?_) (fun _=>?_)<;>(conv=>whnf)
 ·rename_i h
  refine ag ?_ ?_<;>(intro h2;conv=>whnf)
  ·exact⟨xA (by unfold r5;rw[if_neg (fun x=>x h),if_pos (by omega)]),rfl⟩
  ·exact⟨xA (by unfold r5;rw[if_neg (fun x=>x h),if_neg (by omega)]),rfl⟩
 ·rename_i h
  exact⟨xA (by unfold r5;rw[if_pos h]),rfl⟩
theorem Bz (p:an) (q:aE) (s:aC) (hp:g7 p) (hq:qk q):ab Tryz.prog 63 [.agg (aB p), .agg (cJ q), .agg (bv s)] (fun u=>u= .int .i64 (lR p q s)):=by
 refine ab.intro ac ae Tryz.func63 rfl (by decide) ?_;(conv=>whnf)
 refine ak rfl ?_
 conv=>whnf
 refine ak rfl ?_
 conv=>whnf
 refine ak rfl ?_
 conv=>whnf
 (refine oP (jV p q hp hq) ?_;conv=>whnf)
 refine ag ?_ ?_<;>(intro h;conv=>whnf)
 ·exact⟨xA (by unfold lR;rw[if_pos h]),rfl⟩
 have h0:aU p q=0:=Classical.not_not.1 h
 (refine oP (F1 p s hp (bl h0).vld) ?_;conv=>whnf)
 refine ag ?_ ?_<;>(intro h1;conv=>whnf)
 ·exact⟨xA (by unfold lR;rw[if_neg h,if_pos h1]),rfl⟩
 (refine oP (Fu p q hp hq) ?_;conv=>whnf)
 exact⟨xA (by unfold lR;rw[if_neg h,if_neg h1]),rfl⟩
end Go.Proofs.YtekmminpfhacpaaGreatDoor
