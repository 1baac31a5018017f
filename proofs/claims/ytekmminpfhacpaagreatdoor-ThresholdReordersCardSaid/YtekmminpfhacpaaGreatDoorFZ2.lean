import Derived.Test.YtekmminpfhacpaaGreatDoorW3
import Derived.Test.YtekmminpfhacpaaGreatDoorM3
import Derived.Test.YtekmminpfhacpaaGreatDoorW0
set_option linter.unusedVariables false
set_option linter.unusedSimpArgs false
namespace Go.Proofs.YtekmminpfhacpaaGreatDoor
set_option maxRecDepth 100000
set_option maxHeartbeats 16000000
def sG (p:an) (s:aJ):Int:=if¬rh p s then 8 else if 8<s.n then 4 else 0
def kN (p:an) (q:aG) (s:aJ):Int:=if aP p q≠0 then aP p q else if sG p s≠0 then sG p s else cb p q
theorem LR (p:an) (s:aJ) (hp:iO p) (hv:aA p=0):ab Tryz.prog 150 [.agg (aR p), .agg (cq s)] (fun u=>u= .int .i64 (sG p s)):=by
 have hb:=eW hv
 have hV:=c9 p hp
 rw[hv] at hV
 refine ab.intro ae ag Tryz.func150 rfl (by decide) ?_;(conv=>whnf)
 refine al rfl ?_
 conv=>whnf
 refine al rfl ?_
 conv=>whnf
 (refine oP (hV) ?_;conv=>whnf)
 repeat' ((first|refine nI ?_|refine aI ?_|refine tI ?_|refine fI ?_|fail);conv=>whnf)
 refine dC (lp p s hb hv) (fun _=>?_) (fun _=>?_)<;>(conv=>whnf)
 ·rename_i h
  refine ah ?_ ?_<;>(intro h2;conv=>whnf)
  ·exact⟨C6 (by unfold sG;rw[if_neg (fun x=>x h),if_pos (by omega)]),rfl⟩
  ·exact⟨C6 (by unfold sG;rw[if_neg (fun x=>x h),if_neg (by omega)]),rfl⟩
 ·rename_i h
  exact⟨C6 (by unfold sG;rw[if_pos h]),rfl⟩
theorem zw (p:an) (q:aG) (s:aJ) (hp:iO p) (hq:pN q):ab Tryz.prog 79 [.agg (aR p), .agg (df q), .agg (cq s)] (fun u=>u=if kN p q s=0 then .tup [.pd (dQ p q), .int .i64 0] else .tup [.val (.pointer none), .int .i64 (kN p q s)]):=by
 refine ab.intro ae ag Tryz.func79 rfl (by decide) ?_;(conv=>whnf)
 refine al rfl ?_
 conv=>whnf
 refine al rfl ?_
 conv=>whnf
 refine al rfl ?_
 conv=>whnf
 (refine oP (jA p q hp hq) ?_;conv=>whnf)
 refine ah ?_ ?_<;>(intro h;conv=>whnf)
 ·have e:kN p q s=aP p q:=by unfold kN;rw[if_pos h]
  rw[e,if_neg h]
  exact⟨rfl,rfl⟩
 have h0:aP p q=0:=Classical.not_not.1 h
 (refine oP (LR p s hp (aF h0).vld) ?_;conv=>whnf)
 refine ah ?_ ?_<;>(intro h1;conv=>whnf)
 ·have e:kN p q s=sG p s:=by unfold kN;rw[if_neg h,if_pos h1]
  rw[e,if_neg h1]
  exact⟨rfl,rfl⟩
 have e:kN p q s=cb p q:=by unfold kN;rw[if_neg h,if_neg h1]
 rw[e]
 refine am.of_pure (n:=5) (pD p q hp hq) (by rfl) ?_
 rintro _ rfl
 by_cases h2:cb p q=0
 ·rw[if_pos h2,gy h2]
  conv=>whnf
  exact⟨rfl,rfl⟩
 ·rw[if_neg h2,eX rfl h2]
  conv=>whnf
  exact⟨rfl,rfl⟩
theorem vr {p:an} {q:aG} {s:aJ} (h:kN p q s=0):cb p q=0:=by
 unfold kN at h
 by_cases h1:aP p q≠0
 ·rw[if_pos h1] at h;exact absurd h h1
 ·rw[if_neg h1] at h
  by_cases h2:sG p s≠0
  ·rw[if_pos h2] at h;exact absurd h h2
  ·rw[if_neg h2] at h;exact h
end Go.Proofs.YtekmminpfhacpaaGreatDoor
