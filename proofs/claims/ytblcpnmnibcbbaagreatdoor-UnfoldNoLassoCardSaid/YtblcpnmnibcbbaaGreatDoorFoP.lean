import Derived.Test.YtblcpnmnibcbbaaGreatDoorFoPa
import Derived.Test.YtblcpnmnibcbbaaGreatDoorFoPb
import Derived.Test.YtblcpnmnibcbbaaGreatDoorFoPc
import Derived.Test.YtblcpnmnibcbbaaGreatDoorFoPd
import Derived.Test.YtblcpnmnibcbbaaGreatDoorM7
set_option linter.unusedVariables false
set_option linter.unusedSimpArgs false
namespace Go.Proofs.YtblcpnmnibcbbaaGreatDoor
set_option maxRecDepth 100000
set_option maxHeartbeats 16000000
theorem B5 (p:aq) (s:aB) (c:ap) (x:be) (h:cK p s c) (he:cz p s c x false):aa Tryz.prog 62 [.agg (bc p), .agg (aY c), .agg (cF x)] (fun u=>u= .tup [.agg (aY (cp c (p.rules.getD x.rule.toNat au) x)), .bool (decide (bh c (p.rules.getD x.rule.toNat au) x))]):=by
 have hfit:=(aF h.val (i:=x.rule.toNat) (by have:=he.1;omega)).fit
 unfold cb at hfit
 have hcase:((p.rules.getD x.rule.toNat au).kind=1\/(p.rules.getD x.rule.toNat au).kind=4)\/(p.rules.getD x.rule.toNat au).kind=2\/(p.rules.getD x.rule.toNat au).kind=5\/(p.rules.getD x.rule.toNat au).kind=3:=by omega
 by_cases hw:(p.rules.getD x.rule.toNat au).write=-1<;>by_cases hcor:x.process<c.correct<;>rcases hcase with k|k|k|k
 ·exact zd p s c x h he k hw hcor
 ·exact zh p s c x h he k hw hcor
 ·exact zl p s c x h he k hw hcor
 ·exact zp p s c x h he k hw hcor
 ·exact ze p s c x h he k hw hcor
 ·exact zi p s c x h he k hw hcor
 ·exact zm p s c x h he k hw hcor
 ·exact zq p s c x h he k hw hcor
 ·exact zf p s c x h he k hw hcor
 ·exact zj p s c x h he k hw hcor
 ·exact zn p s c x h he k hw hcor
 ·exact zr p s c x h he k hw hcor
 ·exact zg p s c x h he k hw hcor
 ·exact zk p s c x h he k hw hcor
 ·exact zo p s c x h he k hw hcor
 ·exact zu p s c x h he k hw hcor
theorem B6 (p:aq) (s:aB) (c:ap) (x:be) (hp:¬bV p) (hw:aX c=false) (h1:jP p s c=0) (hn:¬cz p s c x false):aa Tryz.prog 68 [.agg (bc p), .agg (bW s), .agg (aY c), .agg (cF x)] (fun u=>u= .tup [.agg (aY aA), .int .i64 9]):=by
 refine aa.sub (R:=fun u=>u= .tup [.agg zc, .int .i64 9]) ?_ (by rintro _ rfl;exact⟨_,rfl,ai,rfl⟩)
 have h:=cK.of hp hw h1
 refine aa.intro ab ac Tryz.func68 rfl (by decide) ?_;(conv=>whnf)
 refine am rfl ?_
 conv=>whnf
 refine am rfl ?_
 conv=>whnf
 refine am rfl ?_
 conv=>whnf
 refine am rfl ?_
 conv=>whnf
 (refine oP (jD p s c hp hw) ?_;conv=>whnf)
 refine fI ?_
 conv=>whnf
 refine dC (kC p s c x false h) (fun _=>?_) (fun _=>?_)<;>(conv=>whnf)
 ·rename_i he;exact absurd he hn
 exact⟨rfl,rfl⟩
theorem B7 (p:aq) (s:aB) (c:ap) (x:be) (hp:¬bV p) (hw:aX c=false) (h1:jP p s c=0) (he:cz p s c x false) (ha:bh c (p.rules.getD x.rule.toNat au) x):aa Tryz.prog 68 [.agg (bc p), .agg (bW s), .agg (aY c), .agg (cF x)] (fun u=>u= .tup [.agg (aY (cp c (p.rules.getD x.rule.toNat au) x)), .int .i64 0]):=by
 have h:=cK.of hp hw h1
 refine aa.intro ab ac Tryz.func68 rfl (by decide) ?_;(conv=>whnf)
 refine am rfl ?_
 conv=>whnf
 refine am rfl ?_
 conv=>whnf
 refine am rfl ?_
 conv=>whnf
 refine am rfl ?_
 conv=>whnf
 (refine oP (jD p s c hp hw) ?_;conv=>whnf)
 refine fI ?_
 conv=>whnf
 refine dC (kC p s c x false h) (fun _=>?_) (fun _=>?_)<;>(conv=>whnf)
 case refine_2=>rename_i hn;exact absurd he hn
 have hA:=B5 p s c x h he
 rw[decide_eq_true ha] at hA
 (refine oP (hA) ?_;conv=>whnf)
 exact⟨rfl,rfl⟩
theorem B8 (p:aq) (s:aB) (c:ap) (x:be) (hp:¬bV p) (hw:aX c=false) (h1:jP p s c=0) (he:cz p s c x false) (ha:¬bh c (p.rules.getD x.rule.toNat au) x):aa Tryz.prog 68 [.agg (bc p), .agg (bW s), .agg (aY c), .agg (cF x)] (fun u=>u= .tup [.agg (aY aA), .int .i64 4]):=by
 refine aa.sub (R:=fun u=>u= .tup [.agg zc, .int .i64 4]) ?_ (by rintro _ rfl;exact⟨_,rfl,ai,rfl⟩)
 have h:=cK.of hp hw h1
 refine aa.intro ab ac Tryz.func68 rfl (by decide) ?_;(conv=>whnf)
 refine am rfl ?_
 conv=>whnf
 refine am rfl ?_
 conv=>whnf
 refine am rfl ?_
 conv=>whnf
 refine am rfl ?_
 conv=>whnf
 (refine oP (jD p s c hp hw) ?_;conv=>whnf)
 refine fI ?_
 conv=>whnf
 refine dC (kC p s c x false h) (fun _=>?_) (fun _=>?_)<;>(conv=>whnf)
 case refine_2=>rename_i hn;exact absurd he hn
 have hA:=B5 p s c x h he
 rw[decide_eq_false ha] at hA
 (refine oP (hA) ?_;conv=>whnf)
 exact⟨rfl,rfl⟩
end Go.Proofs.YtblcpnmnibcbbaaGreatDoor
