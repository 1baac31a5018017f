import Derived.Test.YtnjggjhkfncnlaaGreatDoorGA
import Derived.Test.YtnjggjhkfncnlaaGreatDoorA1
set_option linter.unusedVariables false
set_option linter.unusedSimpArgs false
namespace Go.Proofs.YtnjggjhkfncnlaaGreatDoor
set_option maxRecDepth 100000
set_option maxHeartbeats 16000000
theorem DG {p:au} (ht:io p) (hv:aB p=0) {ri:Int} (hr:0<=ri/\ri<p.rules.length) (i:Int):K1 p ⟨ri,i,-1⟩:=by
 have hR:=(dG hv (i:=ri.toNat) (by omega)).read
 have h1:=(ht.2.2 ri.toNat (by omega)).1
 have h2:=ht.2.1
 exact⟨h1,by show(p.rules.getD ri.toNat ar).write=-1;omega⟩
theorem FH (p:au) (s:bA) (c:aR) (x:dH) (h:gu p s c) (he:j6 p s c x false) (hk1:K1 p x) (ha:ld c (mU p x) x):ab Tryz.prog 177 [.agg (aO p), .agg (cj s), .agg (aW c), .agg (de x)] (fun u=>u= .tup [.agg (aW (iZ c (mU p x) x)), .int .i64 0]):=by
 have h1:=h.vcon
 refine ab.intro ac ag Tryz.func177 rfl (by decide) ?_;(conv=>whnf)
 refine al rfl ?_
 conv=>whnf
 refine al rfl ?_
 conv=>whnf
 refine al rfl ?_
 conv=>whnf
 refine al rfl ?_
 conv=>whnf
 (refine oP (jF p s c h.big h.wide) ?_;conv=>whnf)
 refine fI ?_
 conv=>whnf
 (refine oP (G0 p s c h.wide) ?_;conv=>whnf)
 refine dC (qo p s c x false h) (fun _=>?_) (fun _=>?_)<;>(conv=>whnf)
 case refine_2=>rename_i hn;exact absurd he hn
 have hA:=Dw p s c x h he hk1
 unfold mU at ha⊢
 generalize p.rules.getD x.rule.toNat ar=r at hA ha⊢
 refine ak.news 400 (Aa 1001 1002 1003 1004) (tB (iZ c r x)) (.tup [qY (iZ c r x), .int .i64 0]) hA (aa) rfl (fun u M' hR=>?_) ?_
 ·rcases hR with ⟨_,hT⟩|⟨hn,_⟩
  ·exact JK u M' hT
  ·exact absurd ha hn
 conv=>whnf
 exact⟨rfl,rfl⟩
noncomputable def vQ (p:au) (s:bA) (c:aR) (x:dH):AV:=
 if bK p s c≠0 then .tup [.agg (aW fC), .int .i64 (bK p s c)]
 else if¬j6 p s c x false then .tup [.agg (aW fC), .int .i64 9]
 else if¬ld c (mU p x) x then .tup [.agg (aW fC), .int .i64 4]
 else .tup [.agg (aW (iZ c (mU p x) x)), .int .i64 0]
theorem HW (p:au) (s:bA) (c:aR) (x:dH) (hp:gM p) (hc:xw c) (hk1:K1 p x):ab Tryz.prog 177 [.agg (aO p), .agg (cj s), .agg (aW c), .agg (de x)] (fun u=>u=vQ p s c x):=by
 have he:=vQ.eq_1 p s c x
 by_cases h1:bK p s c≠0
 ·rw[if_pos h1] at he
  rw[he]
  refine ab.sub (R:=fun u=>u= .tup [.agg eH, .int .i64 (bK p s c)]) ?_ (by rintro _ rfl;exact⟨_,rfl,aa,rfl⟩)
  refine ab.intro ac ag Tryz.func177 rfl (by decide) ?_;(conv=>whnf)
  refine al rfl ?_
  conv=>whnf
  refine al rfl ?_
  conv=>whnf
  refine al rfl ?_
  conv=>whnf
  refine al rfl ?_
  conv=>whnf
  (refine oP (tG p s c hp hc) ?_;conv=>whnf)
  refine da h1 ?_
  conv=>whnf
  exact⟨rfl,rfl⟩
 rw[if_neg h1] at he
 have h1:=Classical.not_not.1 h1
 have h:=xy h1
 by_cases h2:j6 p s c x false
 rotate_left
 ·rw[if_pos h2] at he
  rw[he]
  exact Dz p s c x h.big h.wide h1 h2
 rw[if_neg (fun y=>y h2)] at he
 by_cases h3:ld c (mU p x) x
 rotate_left
 ·rw[if_pos h3] at he
  rw[he]
  exact DB p s c x h.big h.wide h1 h2 hk1 h3
 rw[if_neg (fun y=>y h3)] at he
 rw[he]
 exact FH p s c x h h2 hk1 h3
def KA (p:au) (s:bA) (c:aR) (m:Int):Int:=c.sent.getD m.toNat 0+(if p.fault=1\/p.fault=2 then c.faulty.getD m.toNat 0 else if p.fault=3 then s.f else 0)
def KB (p:au) (s:bA) (c:aR) (i:Nat):Prop:=iK ((aA p.rules).getD i aE).bound s<=((aA p.rules).getD i aE).coef*KA p s c ((aA p.rules).getD i aE).message
instance (p:au) (s:bA) (c:aR) (i:Nat):Decidable (KB p s c i):=inferInstanceAs (Decidable (_<=_))
theorem HX (p:au) (s:bA) (c:aR) (x:dH) (hp:gM p) (hc:xw c) (hk1:K1 p x):ab Tryz.prog 114 [.agg (aO p), .agg (cj s), .agg (aW c), .agg (de x)] (fun u=>u=vQ p s c x):=by
 have he:=vQ.eq_1 p s c x
 by_cases h1:bK p s c≠0
 ·rw[if_pos h1] at he
  rw[he]
  refine ab.sub (R:=fun u=>u= .tup [.agg eH, .int .i64 (bK p s c)]) ?_ (by rintro _ rfl;exact⟨_,rfl,aa,rfl⟩)
  refine ab.intro ac ag Tryz.func114 rfl (by decide) ?_;(conv=>whnf)
  refine al rfl ?_
  conv=>whnf
  refine al rfl ?_
  conv=>whnf
  refine al rfl ?_
  conv=>whnf
  refine al rfl ?_
  conv=>whnf
  (refine oP (mV p s c hp hc) ?_;conv=>whnf)
  refine da h1 ?_
  conv=>whnf
  exact⟨rfl,rfl⟩
 rw[if_neg h1] at he
 have h1:=Classical.not_not.1 h1
 have h:=xy h1
 by_cases h2:j6 p s c x false
 rotate_left
 ·rw[if_pos h2] at he
  rw[he]
  exact DC p s c x h.big h.wide h1 h2
 rw[if_neg (fun y=>y h2)] at he
 by_cases h3:ld c (mU p x) x
 rotate_left
 ·rw[if_pos h3] at he
  rw[he]
  exact DE p s c x h.big h.wide h1 h2 hk1 h3
 rw[if_neg (fun y=>y h3)] at he
 rw[he]
 exact DD p s c x h.big h.wide h1 h2 hk1 h3
end Go.Proofs.YtnjggjhkfncnlaaGreatDoor
