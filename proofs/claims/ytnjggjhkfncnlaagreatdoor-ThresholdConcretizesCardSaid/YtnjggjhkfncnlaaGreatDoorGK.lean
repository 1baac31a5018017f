import Derived.Test.YtnjggjhkfncnlaaGreatDoorGC
import Derived.Test.YtnjggjhkfncnlaaGreatDoorY1
set_option linter.unusedVariables false
set_option linter.unusedSimpArgs false
namespace Go.Proofs.YtnjggjhkfncnlaaGreatDoor
set_option maxRecDepth 100000
set_option maxHeartbeats 16000000
theorem ab.nilA {f:FuncId} {R:AV->Prop} (h:∀b c,ab Tryz.prog f [.val (.slice b 0 c)] R):ab Tryz.prog f [.sl (0:Int) an []] R:=by
 simp only[dj] at*
 refine⟨(h none 0).1,fun S F vs w hG hS hF hd hv=>?_⟩
 obtain⟨v,vs',rfl,hr,hn⟩:=hv.cons_inv
 cases hr with
 |sl _ _ _ base cap sz vals hcap ho hsz hb hnn hvv=>exact(h base cap).2 S F _ w hG hS hF hd (ir.cons (.val _) hn)
theorem tK (l:List Int) (hl:l.length<=1000):ab Tryz.prog 98 [.sl 0 an l] (fun u=>u= .sl 0 an l):=by
 by_cases h0:l=[]
 ·subst h0
  refine ab.nilA fun b c=>?_
  cases b with
  |none=>
   refine ab.sub (R:=fun u=>u= .nilsl) ?_ (by rintro _ rfl;exact⟨_,rfl,aa,rfl⟩)
   refine ab.intro ac ag Tryz.func98 rfl (by decide) ?_;(conv=>whnf)
   conv=>whnf
   exact⟨rfl,rfl⟩
  |some ad=>
   refine ab.intro ac ag Tryz.func98 rfl (by decide) ?_;(conv=>whnf)
   conv=>whnf
   refine bw 0 an [] rfl ?_
   conv=>whnf
   refine bD [] rfl (by simp only[List.length_nil];omega) ?_
   conv=>whnf
   exact⟨rfl,rfl⟩
 ·exact lU l (List.length_pos_iff.2 h0) hl
theorem JM (c:aR) (hw:ct c=false):ab Tryz.prog 41 [.agg (aW c)] (fun u=>u= .agg (aW c)):=by
 have hc:=b8 hw
 have h1:=tK c.shape (by omega)
 have h2:=tK c.states (by omega)
 have h3:=tK c.sent (by omega)
 have h4:=tK c.faulty (by omega)
 refine ab.intro ac ag Tryz.func41 rfl (by decide) ?_;(conv=>whnf)
 refine wi ?_
 conv=>whnf
 refine dI ?_
 conv=>whnf
 (refine oC (h1) ?_;conv=>whnf)
 (refine oC (h2) ?_;conv=>whnf)
 (refine oC (h3) ?_;conv=>whnf)
 (refine oC (h4) ?_;conv=>whnf)
 exact⟨rfl,rfl⟩
theorem JN (c:aR) (hw:ct c=false):ab Tryz.prog 112 [.agg (aW c)] (fun u=>u= .agg (aW c)):=by
 have hc:=b8 hw
 refine ab.intro ac ag Tryz.func112 rfl (by decide) ?_;(conv=>whnf)
 refine al rfl ?_
 conv=>whnf
 refine em [1,2,5,6,8,9,11,12,15,16,18,19,20] (by decide+kernel) ?_
 conv=>whnf
 repeat' first
  |exact True.intro
  |(refine bw 0 an [] rfl ?_;conv=>whnf)
  |(refine cb ?_;conv=>whnf)
  |(refine bD c.shape rfl (by simp only[List.length_nil];omega) ?_;conv=>whnf)
  |(refine bD c.states rfl (by simp only[List.length_nil];omega) ?_;conv=>whnf)
  |(refine bD c.sent rfl (by simp only[List.length_nil];omega) ?_;conv=>whnf)
  |(refine bD c.faulty rfl (by simp only[List.length_nil];omega) ?_;conv=>whnf)
  |(refine And.intro ?_ ?_<;>conv=>whnf)
  |exact rfl
  |fail
def jP (l:List Int) (st:Int):Nat->Nat->Int
 |0,_=>-1
 |n+1,i=>if l.getD i 0=st then(i:Int) else jP l st n (i+1)
def Ad (c:aR) (st:Int) (b:Bool):Nat->Nat->Int
 |0,_=>-1
 |n+1,i=>if c.states.getD i 0=st/\decide (c.correct<=(i:Int))=b then(i:Int) else Ad c st b n (i+1)
theorem Gn (c:aR) (st:Int) (k:Nat) (hk:c.correct=k):∀n i,k<=i+n->Ad c st false n i=jP c.states st (k-i) i
 |0,i,h=>by rw[show k-i=0 by omega];rfl
 |n+1,i,h=>by
  have ih:=Gn c st k hk n (i+1) (by omega)
  unfold Ad
  by_cases hi:i<k
  ·have e:k-i=(k-(i+1))+1:=by omega
   rw[e,ih]
   show _=if c.states.getD i 0=st then(i:Int) else jP c.states st (k-(i+1)) (i+1)
   have hd:decide (c.correct<=(i:Int))=false:=decide_eq_false (by omega)
   by_cases hs:c.states.getD i 0=st
   ·rw[if_pos ⟨hs,hd⟩,if_pos hs]
   ·rw[if_neg (fun h=>hs h.1),if_neg hs]
  ·have hd:decide (c.correct<=(i:Int))=true:=decide_eq_true (by omega)
   rw[if_neg (fun h=>by rw[hd] at h;exact absurd h.2 (by decide)),ih,show k-(i+1)=0 by omega,show k-i=0 by omega]
   rfl
theorem DH (c:aR) (st:Int) (k:Nat) (hk:c.correct=k):∀n i,k<=i->Ad c st true n i=jP c.states st n i
 |0,i,h=>rfl
 |n+1,i,h=>by
  have ih:=DH c st k hk n (i+1) (by omega)
  unfold Ad jP
  have hd:decide (c.correct<=(i:Int))=true:=decide_eq_true (by omega)
  rw[ih]
  by_cases hs:c.states.getD i 0=st
  ·rw[if_pos ⟨hs,hd⟩,if_pos hs]
  ·rw[if_neg (fun h=>hs h.1),if_neg hs]
theorem Gp (c:aR) (st:Int) (k:Nat) (hk:c.correct=k):∀n i,i<=k->k<=i+n->Ad c st true n i=jP c.states st (i+n-k) k
 |0,i,h,h2=>by rw[show i+0-k=0 by omega];rfl
 |n+1,i,h,h2=>by
  by_cases e:i=k
  ·subst e
   rw[DH c st i hk _ _ (Nat.le_refl _),Nat.add_sub_cancel_left]
  ·have ih:=Gp c st k hk n (i+1) (by omega) (by omega)
   unfold Ad
   have hd:decide (c.correct<=(i:Int))=false:=decide_eq_false (by omega)
   rw[if_neg (fun h=>by rw[hd] at h;exact absurd h.2 (by decide)),ih,show i+1+n-k=i+(n+1)-k by omega]
theorem HY (c:aR) (st:Int) (lo hi:Nat) (hh:hi<=c.states.length) (hb:hi<=1000000):ab Tryz.prog 176 [.agg (aW c), .int .i64 st, .int .i64 (lo:Int), .int .i64 (hi:Int)] (fun u=>u= .int .i64 (jP c.states st (hi-lo) lo)):=by
 refine ab.intro ac ag Tryz.func176 rfl (by decide) ?_;(conv=>whnf)
 refine al rfl ?_
 conv=>whnf
 refine aH.loopF ac ag (fun i:Nat=>lo<=i/\jP c.states st (hi-lo) lo=jP c.states st (hi-i) i) (fun i=>[(9, .int .i64 (i:Int))]) (fun _=>[]) (fun i=>hi-i) lo ⟨Nat.le_refl _,rfl⟩ ?_;conv=>whnf
 refine⟨sI,?_⟩
 rintro i ⟨h1,h2⟩
 conv=>whnf
 refine ah ?_ ?_<;>(intro g1;conv=>whnf)
 ·have hil:i<hi:=by omega
  have e:hi-i=(hi-(i+1))+1:=by omega
  have e2:jP c.states st (hi-i) i=if c.states.getD i 0=st then(i:Int) else jP c.states st (hi-(i+1)) (i+1):=by rw[e];rfl
  refine nI ?_
  rw[tN]
  conv=>whnf
  refine ah ?_ ?_<;>(intro g2;conv=>whnf)
  ·exact⟨n9 (by rw[h2,e2,if_pos g2]),rfl⟩
  ·repeat' ((first|refine nI ?_|refine aI ?_|refine dz trivial (by omega) ?_|refine dV trivial (by omega) ?_|refine dI ?_|refine dR ?_|refine dP ?_|refine al rfl ?_|refine pI _ rfl ?_|refine ap _ rfl ?_|refine tI ?_|refine fI ?_|refine ah (fun _=>?_) (fun _=>?_))<;>conv=>whnf)
   exact⟨i+1,sI,⟨by omega,by rw[h2,e2,if_neg g2]⟩,by dsimp only;omega⟩
 ·exact⟨n9 (by rw[h2,show hi-i=0 by omega];rfl),rfl⟩
theorem HZ (c:aR) (st:Int) (b:Bool) (hb:c.states.length<=1000000):ab Tryz.prog 113 [.agg (aW c), .int .i64 st, .bool b] (fun u=>u= .int .i64 (Ad c st b c.states.length 0)):=by
 refine ab.intro ac ag Tryz.func113 rfl (by decide) ?_;(conv=>whnf)
 refine al rfl ?_
 conv=>whnf
 refine aH.loopF ac ag (fun i:Nat=>i<=c.states.length/\Ad c st b c.states.length 0=Ad c st b (c.states.length-i) i) (fun i=>[(7, .int .i64 (i:Int))]) (fun _=>[]) (fun i=>c.states.length-i) 0 ⟨Nat.zero_le _,rfl⟩ ?_;conv=>whnf
 refine⟨sI,?_⟩
 rintro i ⟨h1,h2⟩
 conv=>whnf
 refine ah ?_ ?_<;>(intro g1;conv=>whnf)
 ·have hil:i<c.states.length:=by omega
  have e:c.states.length-i=(c.states.length-(i+1))+1:=by omega
  have e2:Ad c st b (c.states.length-i) i=if c.states.getD i 0=st/\decide (c.correct<=(i:Int))=b then(i:Int) else Ad c st b (c.states.length-(i+1)) (i+1):=by rw[e];rfl
  clear e
  refine nI ?_
  rw[tN]
  conv=>whnf
  refine ah ?_ ?_<;>(intro g2;conv=>whnf)
  ·refine ah (fun g3=>?_) (fun g3=>?_)<;>cases b<;>conv=>whnf
   ·repeat' ((first|refine nI ?_|refine aI ?_|refine dz trivial (by omega) ?_|refine dV trivial (by omega) ?_|refine dI ?_|refine dR ?_|refine dP ?_|refine al rfl ?_|refine pI _ rfl ?_|refine ap _ rfl ?_|refine tI ?_|refine fI ?_|refine ah (fun _=>?_) (fun _=>?_))<;>conv=>whnf)
    exact⟨i+1,sI,⟨by omega,by rw[h2,e2,if_neg (fun h=>by rw[decide_eq_true g3] at h;exact absurd h.2 (by decide))]⟩,by dsimp only;omega⟩
   ·exact⟨n9 (by rw[h2,e2,if_pos ⟨g2,decide_eq_true g3⟩]),rfl⟩
   ·exact⟨n9 (by rw[h2,e2,if_pos ⟨g2,decide_eq_false g3⟩]),rfl⟩
   ·repeat' ((first|refine nI ?_|refine aI ?_|refine dz trivial (by omega) ?_|refine dV trivial (by omega) ?_|refine dI ?_|refine dR ?_|refine dP ?_|refine al rfl ?_|refine pI _ rfl ?_|refine ap _ rfl ?_|refine tI ?_|refine fI ?_|refine ah (fun _=>?_) (fun _=>?_))<;>conv=>whnf)
    exact⟨i+1,sI,⟨by omega,by rw[h2,e2,if_neg (fun h=>by rw[decide_eq_false g3] at h;exact absurd h.2 (by decide))]⟩,by dsimp only;omega⟩
  ·repeat' ((first|refine nI ?_|refine aI ?_|refine dz trivial (by omega) ?_|refine dV trivial (by omega) ?_|refine dI ?_|refine dR ?_|refine dP ?_|refine al rfl ?_|refine pI _ rfl ?_|refine ap _ rfl ?_|refine tI ?_|refine fI ?_|refine ah (fun _=>?_) (fun _=>?_))<;>conv=>whnf)
   exact⟨i+1,sI,⟨by omega,by rw[h2,e2,if_neg (fun h=>g2 h.1)]⟩,by dsimp only;omega⟩
 ·exact⟨n9 (by rw[h2,show c.states.length-i=0 by omega];rfl),rfl⟩
def ig:dH:=⟨0,0,0⟩
noncomputable def ii (p:au) (s:bA) (c:aR) (x:dH):Int:=
 if bK p s c≠0 then bK p s c else if¬j6 p s c x false then 9 else if¬ld c (mU p x) x then 4 else 0
theorem tL {p:au} {s:bA} {c:aR} {x:dH} (h:ii p s c x=0):vQ p s c x= .tup [.agg (aW (iZ c (mU p x) x)), .int .i64 0]/\j6 p s c x false/\ld c (mU p x) x:=by
 unfold ii at h
 unfold vQ
 by_cases h1:bK p s c≠0
 ·rw[if_pos h1] at h;exact absurd h h1
 rw[if_neg h1] at h⊢
 by_cases h2:¬j6 p s c x false
 ·rw[if_pos h2] at h;omega
 rw[if_neg h2] at h⊢
 by_cases h3:¬ld c (mU p x) x
 ·rw[if_pos h3] at h;omega
 rw[if_neg h3]
 exact⟨rfl,Classical.not_not.1 h2,Classical.not_not.1 h3⟩
theorem yL {p:au} {s:bA} {c:aR} {x:dH} (h:ii p s c x≠0):vQ p s c x= .tup [.agg (aW fC), .int .i64 (ii p s c x)]:=by
 unfold ii at h⊢
 unfold vQ
 by_cases h1:bK p s c≠0
 ·rw[if_pos h1,if_pos h1]
 rw[if_neg h1] at h⊢
 rw[if_neg h1]
 by_cases h2:¬j6 p s c x false
 ·rw[if_pos h2,if_pos h2]
 rw[if_neg h2] at h⊢
 rw[if_neg h2]
 by_cases h3:¬ld c (mU p x) x
 ·rw[if_pos h3,if_pos h3]
 ·rw[if_neg h3] at h;exact absurd rfl h
def eO (p:au) (ri:Int):Int:=(p.rules.getD ri.toNat ar).src
noncomputable def dU (p:au) (s:bA) (ri:Int) (lo hi:Nat):Nat->aR->List dH->aR×List dH×Int
 |0,c,xs=>(c,xs,0)
 |n+1,c,xs=>
  if jP c.states (eO p ri) (hi-lo) lo<0 then(fC,[],9)
  else if ii p s c ⟨ri,jP c.states (eO p ri) (hi-lo) lo,-1⟩≠0 then(fC,[],ii p s c ⟨ri,jP c.states (eO p ri) (hi-lo) lo,-1⟩)
  else dU p s ri lo hi n (iZ c (p.rules.getD ri.toNat ar) ⟨ri,jP c.states (eO p ri) (hi-lo) lo,-1⟩) (xs++[⟨ri,jP c.states (eO p ri) (hi-lo) lo,-1⟩])
def FI (xs:List dH) (R:aR×List dH×Int):aR×List dH×Int:=if R.2.2=0 then(R.1,xs++R.2.1,0) else(fC,[],R.2.2)
theorem vR (p:au) (s:bA) (ri:Int) (lo hi:Nat):∀n c xs ys,dU p s ri lo hi n c (xs++ys)=FI xs (dU p s ri lo hi n c ys)
 |0,c,xs,ys=>rfl
 |n+1,c,xs,ys=>by
  unfold dU
  by_cases h1:jP c.states (eO p ri) (hi-lo) lo<0
  ·rw[if_pos h1,if_pos h1];rfl
  rw[if_neg h1,if_neg h1]
  by_cases h2:ii p s c ⟨ri,jP c.states (eO p ri) (hi-lo) lo,-1⟩≠0
  ·rw[if_pos h2,if_pos h2];unfold FI;rw[if_neg h2]
  rw[if_neg h2,if_neg h2,List.append_assoc,vR p s ri lo hi n]
theorem tM {p:au} {s:bA} {c:aR} {ri i:Int} (h:gu p s c) (he:ii p s c ⟨ri,i,-1⟩=0):gu p s (iZ c (p.rules.getD ri.toNat ar) ⟨ri,i,-1⟩):=by
 obtain⟨_,a,b⟩:=tL he
 exact h.next a b
theorem mW (p:au) (s:bA) (ri:Int) (lo hi:Nat):∀n c xs,gu p s c->
  ((dU p s ri lo hi n c xs).2.2=0/\gu p s (dU p s ri lo hi n c xs).1/\(dU p s ri lo hi n c xs).1.states.length=c.states.length/\(dU p s ri lo hi n c xs).1.correct=c.correct/\(dU p s ri lo hi n c xs).2.1.length=xs.length+n)\/
  ((dU p s ri lo hi n c xs).2.2≠0/\(dU p s ri lo hi n c xs).1=fC/\(dU p s ri lo hi n c xs).2.1=[])
 |0,c,xs,h=>.inl ⟨rfl,h,rfl,rfl,rfl⟩
 |n+1,c,xs,h=>by
  unfold dU
  by_cases h1:jP c.states (eO p ri) (hi-lo) lo<0
  ·rw[if_pos h1];exact .inr ⟨by decide,rfl,rfl⟩
  rw[if_neg h1]
  by_cases h2:ii p s c ⟨ri,jP c.states (eO p ri) (hi-lo) lo,-1⟩≠0
  ·rw[if_pos h2];exact .inr ⟨h2,rfl,rfl⟩
  rw[if_neg h2]
  have h2:=Classical.not_not.1 h2
  have ih:=mW p s ri lo hi n _ (xs++[⟨ri,jP c.states (eO p ri) (hi-lo) lo,-1⟩]) (tM h h2)
  rw[List.length_append,List.length_singleton] at ih
  have hl:(iZ c (p.rules.getD ri.toNat ar) ⟨ri,jP c.states (eO p ri) (hi-lo) lo,-1⟩).states.length=c.states.length:=gN _ _ _
  rcases ih with ⟨a,b,d,e,f⟩|ih
  ·exact .inl ⟨a,b,d.trans hl,e,by omega⟩
  ·exact .inr ih
def H0 (R:aR×List dH×Int) (u:AV) (M:aj):Prop:=(R.2.2=0/\u= .tup [.agg (aW R.1), .row 1000 R.2.1.length 3, .int .i64 0]/\M 1000=some (.row 80 ig de R.2.1))\/(R.2.2≠0/\u= .tup [.agg eH, .nilsl, .int .i64 R.2.2])
theorem yM (p:au) (s:bA) (c:aR) (hp:gM p) (h:gu p s c) (ri:Int) (hr:0<=ri/\ri<p.rules.length) (hk1:∀i,K1 p ⟨ri,i,-1⟩) (n:Nat) (hn:n<=8) (lo hi:Nat) (hh:hi<=c.states.length):
  ak Tryz.prog 102 [.agg (aO p), .agg (cj s), .agg (aW c), .int .i64 ri, .int .i64 (n:Int), .int .i64 (lo:Int), .int .i64 (hi:Int)] (aj.ofL []) (H0 (dU p s ri lo hi n c [])):=by
 have hle:=b7 h.big
 refine ak.intro ac ag [] Tryz.func102 rfl (by decide) ?_
 conv=>whnf
 refine al rfl ?_
 conv=>whnf
 refine al rfl ?_
 conv=>whnf
 refine wi ?_
 conv=>whnf
 refine aH.loopF ac ag (fun y:Nat×aR×List dH=>y.1<=n/\gu p s y.2.1/\y.2.1.states.length=c.states.length/\y.2.2.length=y.1/\dU p s ri lo hi n c []=dU p s ri lo hi (n-y.1) y.2.1 y.2.2) (fun y=>[(22, .int .i64 (y.1:Int)),(17, .row 1000 y.2.2.length 3)]) (fun y=>[(9, .box 36 (aW y.2.1)),(14, .box 36 eH),(1000, .row 80 ig de y.2.2)]) (fun y=>n-y.1) (0,c,[]) ⟨Nat.zero_le _,h,rfl,rfl,rfl⟩ ?_;conv=>whnf
 refine⟨aL.by_ [(9, .old 9),(14, .old 14),(1000, .nil 3)] _ 400 rfl (aa) (aa),?_⟩
 rintro⟨k,d,xs⟩ ⟨hk,hd,hl,hx,hE⟩
 dsimp only at hk hd hl hx hE
 have hw:=b8 hd.wide
 have hcd:xw d:=by unfold xw;omega
 conv=>whnf
 refine ah ?_ ?_<;>(intro g1;conv=>whnf)
 ·have hkn:k<n:=by omega
  have e1:n-k=(n-(k+1))+1:=by omega
  rw[e1] at hE
  clear e1
  have eA:dU p s ri lo hi (n-(k+1)+1) d xs=if jP d.states (eO p ri) (hi-lo) lo<0 then(fC,[],9) else if ii p s d ⟨ri,jP d.states (eO p ri) (hi-lo) lo,-1⟩≠0 then(fC,[],ii p s d ⟨ri,jP d.states (eO p ri) (hi-lo) lo,-1⟩) else dU p s ri lo hi (n-(k+1)) (iZ d (p.rules.getD ri.toNat ar) ⟨ri,jP d.states (eO p ri) (hi-lo) lo,-1⟩) (xs++[⟨ri,jP d.states (eO p ri) (hi-lo) lo,-1⟩]):=rfl
  rw[eA] at hE
  clear eA
  have hT:=HY d (eO p ri) lo hi (by omega) (by omega)
  have hA:=fun i=>HW p s d ⟨ri,i,-1⟩ hp hcd (hk1 i)
  generalize jP d.states (eO p ri) (hi-lo) lo=i at hE hT
  have hA:=hA i
  refine dI ?_
  conv=>whnf
  refine nI ?_
  conv=>whnf
  (refine oC (hT) ?_;conv=>whnf)
  refine ah ?_ ?_<;>(intro g2;conv=>whnf)
  ·rw[if_pos g2] at hE
   rw[hE]
   exact .inr ⟨by decide,rfl⟩
  rw[if_neg g2] at hE
  by_cases h0:ii p s d ⟨ri,i,-1⟩=0
  rotate_left
  ·rw[if_pos h0] at hE
   rw[yL h0] at hA
   rw[hE]
   generalize ii p s d ⟨ri,i,-1⟩=e at h0 hA
   (refine oP (hA) ?_;conv=>whnf)
   refine da h0 ?_
   conv=>whnf
   exact .inr ⟨h0,rfl⟩
  rw[if_neg (fun y=>y h0)] at hE
  obtain⟨eA,q1,q2⟩:=tL h0
  have hrx:=tM hd h0
  have hlx:(iZ d (p.rules.getD ri.toNat ar) ⟨ri,i,-1⟩).states.length=d.states.length:=gN _ _ _
  rw[eA] at hA
  have eR:mU p ⟨ri,i,-1⟩=p.rules.getD ri.toNat ar:=rfl
  rw[eR] at hA
  generalize iZ d (p.rules.getD ri.toNat ar) ⟨ri,i,-1⟩=d' at hA hE hrx hlx
  (refine oP (hA) ?_;conv=>whnf)
  refine fI ?_
  conv=>whnf
  refine mn ?_
  conv=>whnf
  repeat' first
   |exact True.intro
   |(refine bw ig de [⟨ri,i,-1⟩] rfl ?_;conv=>whnf)
   |(refine cb ?_;conv=>whnf)
   |(refine bD [⟨ri,i,-1⟩] rfl lI ?_;conv=>whnf)
   |(refine aI ?_;conv=>whnf)
   |exact⟨(k+1,d',xs++[⟨ri,i,-1⟩]),aL.by_ [(9, .old 9),(14, .old 14),(1000, .old 56)] _ 400 rfl (aa) (aa),⟨by dsimp only;omega,hrx,by dsimp only;omega,by dsimp only;rw[List.length_append,List.length_singleton];omega,hE⟩,by dsimp only;omega⟩
   |(refine And.intro ?_ ?_<;>conv=>whnf)
   |fail
 ·obtain rfl:k=n:=by omega
  rw[Nat.sub_self] at hE
  rw[hE]
  exact .inl ⟨rfl,rfl,rfl⟩
noncomputable def gC (p:au) (s:bA) (c:aR) (ri:Int) (n m:Nat):aR×List dH×Int:=
 if(dU p s ri 0 c.correct.toNat n c []).2.2≠0 then(fC,[],(dU p s ri 0 c.correct.toNat n c []).2.2)
 else dU p s ri c.correct.toNat c.states.length m (dU p s ri 0 c.correct.toNat n c []).1 (dU p s ri 0 c.correct.toNat n c []).2.1
def vS (R:aR×List dH×Int):AV:=.tup [.agg (aW R.1), .sl ig de R.2.1, .int .i64 R.2.2]
theorem yN {R:aR×List dH×Int} {ℓ:Nat} (h:R.2.2=0):∀u M',H0 R u M'->cU [(ℓ, .old 1000)] 400 M' [(ℓ, .row 80 ig de R.2.1)]/\jr [(ℓ, .old 1000)] 400 u (.tup [.agg (aW R.1), .row ℓ R.2.1.length 3, .int .i64 0]):=by
 rintro u M' (⟨_,rfl,hM⟩|⟨h1,_⟩)
 ·constructor
  ·simp[cU,aU,md,hM]
  ·simp[jr,ij,aU,aW]
 ·exact absurd h h1
theorem DI {R:aR×List dH×Int} (h:R.2.2≠0):∀u M',H0 R u M'->cU [] 400 M' []/\jr [] 400 u (.tup [.agg eH, .nilsl, .int .i64 R.2.2]):=by
 rintro u M' (⟨h1,_⟩|⟨_,rfl⟩)
 ·exact absurd h1 h
 ·exact⟨trivial,aa⟩
theorem H1 (p:au) (s:bA) (c:aR) (hp:gM p) (h:gu p s c) (ri:Int) (hr:0<=ri/\ri<p.rules.length) (hk1:∀i,K1 p ⟨ri,i,-1⟩) (n m:Nat) (hn:n<=8) (hm:m<=8):
  ab Tryz.prog 43 [.agg (aO p), .agg (cj s), .agg (aW c), .int .i64 ri, .int .i64 (n:Int), .int .i64 (m:Int)] (fun u=>u=vS (gC p s c ri n m)):=by
 have hcor:=h.vc.cor
 have hlen:=h.vc.len
 have hsz:=h.sz
 have hmod:s.n-s.f<=iU p s:=by unfold iU;split<;>omega
 have hw:=b8 h.wide
 have hA:=yM p s c hp h ri hr hk1 n hn 0 c.correct.toNat (by omega)
 have kA:=mW p s ri 0 c.correct.toNat n c [] h
 have eC:((c.correct.toNat:Nat):Int)=c.correct:=Int.toNat_of_nonneg (by omega)
 rw[eC] at hA
 unfold gC
 generalize dU p s ri 0 c.correct.toNat n c []=A at hA kA⊢
 rcases kA with ⟨a1,a2,a3,a4,a5⟩|⟨a1,a2,a3⟩
 rotate_left
 ·rw[if_pos a1]
  have hA1:=DI a1
  generalize A.2.2=e at a1 hA1
  refine ab.sub (R:=fun u=>u= .tup [.agg eH, .nilsl, .int .i64 e]) ?_ (by rintro _ rfl;exact⟨_,rfl,aa,rfl⟩)
  refine ab.intro ac ag Tryz.func43 rfl (by decide) ?_;(conv=>whnf)
  refine al rfl ?_
  conv=>whnf
  refine al rfl ?_
  conv=>whnf
  refine al rfl ?_
  conv=>whnf
  refine ak.news 400 [] [] (.tup [.agg eH, .nilsl, .int .i64 e]) hA (aa) rfl hA1 ?_
  conv=>whnf
  refine da a1 ?_
  conv=>whnf
  exact⟨rfl,rfl⟩
 rw[if_neg (fun y=>y a1)]
 have hB:=yM p s A.1 hp a2 ri hr hk1 m hm c.correct.toNat c.states.length (by omega)
 have kB:=mW p s ri c.correct.toNat c.states.length m A.1 [] a2
 have eB:=vR p s ri c.correct.toNat c.states.length m A.1 A.2.1 []
 rw[List.append_nil] at eB
 rw[eB,eC] at*
 clear eB
 have hA0:=yN (ℓ:=1001) a1
 generalize dU p s ri c.correct.toNat c.states.length m A.1 []=B at hB kB⊢
 obtain⟨d,xs,e⟩:=A
 dsimp only at*
 rcases kB with ⟨b1,b2,b3,b4,b5⟩|⟨b1,b2,b3⟩
 rotate_left
 ·have hB1:=DI b1
  unfold FI
  rw[if_neg b1]
  generalize B.2.2=f at b1 hB1
  refine ab.sub (R:=fun u=>u= .tup [.agg eH, .nilsl, .int .i64 f]) ?_ (by rintro _ rfl;exact⟨_,rfl,aa,rfl⟩)
  refine ab.intro ac ag Tryz.func43 rfl (by decide) ?_;(conv=>whnf)
  refine al rfl ?_
  conv=>whnf
  refine al rfl ?_
  conv=>whnf
  refine al rfl ?_
  conv=>whnf
  refine ak.news 400 [(1001, .old 1000)] [(1001, .row 80 ig de xs)] (.tup [.agg (aW d), .row 1001 xs.length 3, .int .i64 0]) hA (aa) rfl hA0 ?_
  conv=>whnf
  refine fI ?_
  conv=>whnf
  refine ak.news 400 [] [] (.tup [.agg eH, .nilsl, .int .i64 f]) hB (aa) rfl hB1 ?_
  conv=>whnf
  refine da b1 ?_
  conv=>whnf
  exact⟨rfl,rfl⟩
 have hB0:=yN (ℓ:=1002) b1
 unfold FI
 rw[if_pos b1]
 obtain⟨d',ys,f⟩:=B
 dsimp only at*
 refine ab.intro ac ag Tryz.func43 rfl (by decide) ?_;(conv=>whnf)
 refine al rfl ?_
 conv=>whnf
 refine al rfl ?_
 conv=>whnf
 refine al rfl ?_
 conv=>whnf
 refine ak.news 400 [(1001, .old 1000)] [(1001, .row 80 ig de xs)] (.tup [.agg (aW d), .row 1001 xs.length 3, .int .i64 0]) hA (aa) rfl hA0 ?_
 conv=>whnf
 refine fI ?_
 conv=>whnf
 refine ak.news 400 [(1002, .old 1000)] [(1002, .row 80 ig de ys)] (.tup [.agg (aW d'), .row 1002 ys.length 3, .int .i64 0]) hB (aa) rfl hB0 ?_
 conv=>whnf
 refine fI ?_
 conv=>whnf
 refine em [1,2] (by decide+kernel) ?_
 conv=>whnf
 repeat' first
  |exact True.intro
  |(refine cb ?_;conv=>whnf)
  |(refine bD ys rfl (by dsimp only;simp only[List.length_nil] at a5 b5;omega) ?_;conv=>whnf)
  |(refine And.intro ?_ ?_<;>conv=>whnf)
  |exact rfl
  |fail
noncomputable def FJ (p:au) (s:bA) (c:aR) (ri n m:Int):aR×List dH×Int:=
 if qZ p s c≠0 then(fC,[],qZ p s c) else if ri<0\/p.rules.length<=ri then(fC,[],6)
 else if n<0\/8<n\/m<0\/8<m then(fC,[],1) else gC p s c ri n.toNat m.toNat
end Go.Proofs.YtnjggjhkfncnlaaGreatDoor
