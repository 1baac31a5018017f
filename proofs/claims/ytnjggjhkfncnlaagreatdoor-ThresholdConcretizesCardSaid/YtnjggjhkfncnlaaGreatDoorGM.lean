import Derived.Test.YtnjggjhkfncnlaaGreatDoorY1
import Derived.Test.YtnjggjhkfncnlaaGreatDoorGA
import Derived.Test.YtnjggjhkfncnlaaGreatDoorGK
import Derived.Test.YtnjggjhkfncnlaaGreatDoorGC
set_option linter.unusedVariables false
set_option linter.unusedSimpArgs false
namespace Go.Proofs.YtnjggjhkfncnlaaGreatDoor
open Go.ChangeShapes Go.WideShapes Go.ChangeAt Go.RowKit
end Go.Proofs.YtnjggjhkfncnlaaGreatDoor
namespace Go.Proofs.YtnjggjhkfncnlaaGreatDoor
set_option maxRecDepth 100000
set_option maxHeartbeats 16000000
def v7 (p:au) (ri:Int) (n K len k:Nat) (c:aR):Int:=if n<=k then jP c.states (eO p ri) (len-K) K else jP c.states (eO p ri) (K-0) 0
noncomputable def tO (p:au) (s:bA) (ri:Int) (n K len:Nat):Nat->Nat->aR->List dH->aR×List dH×Int
 |0,_,c,xs=>(c,xs,0)
 |t+1,k,c,xs=>
  if v7 p ri n K len k c<0 then(fC,[],9)
  else if ii p s c ⟨ri,v7 p ri n K len k c,-1⟩≠0 then(fC,[],ii p s c ⟨ri,v7 p ri n K len k c,-1⟩)
  else tO p s ri n K len t (k+1) (iZ c (p.rules.getD ri.toNat ar) ⟨ri,v7 p ri n K len k c,-1⟩) (xs++[⟨ri,v7 p ri n K len k c,-1⟩])
theorem DJ (p:au) (s:bA) (ri:Int) (n K len:Nat):∀t k c xs,n<=k->tO p s ri n K len t k c xs=dU p s ri K len t c xs
 |0,k,c,xs,h=>rfl
 |t+1,k,c,xs,h=>by
  unfold tO dU
  rw[show v7 p ri n K len k c=jP c.states (eO p ri) (len-K) K from if_pos h,DJ p s ri n K len t (k+1) _ _ (by omega)]
theorem DK (p:au) (s:bA) (ri:Int) (n K len m:Nat):∀j k c xs,k+j=n->tO p s ri n K len (j+m) k c xs=
  if(dU p s ri 0 K j c xs).2.2≠0 then(fC,[],(dU p s ri 0 K j c xs).2.2) else dU p s ri K len m (dU p s ri 0 K j c xs).1 (dU p s ri 0 K j c xs).2.1
 |0,k,c,xs,h=>by
  rw[Nat.zero_add,DJ p s ri n K len m k c xs (by omega)]
  rw[if_neg (fun h=>h rfl)]
  rfl
 |j+1,k,c,xs,h=>by
  rw[show j+1+m=(j+m)+1 by omega]
  unfold tO
  have ih:=fun c xs=>DK p s ri n K len m j (k+1) c xs (by omega)
  rw[show v7 p ri n K len k c=jP c.states (eO p ri) (K-0) 0 from if_neg (by omega)]
  have eA:dU p s ri 0 K (j+1) c xs=if jP c.states (eO p ri) (K-0) 0<0 then(fC,[],9) else if ii p s c ⟨ri,jP c.states (eO p ri) (K-0) 0,-1⟩≠0 then(fC,[],ii p s c ⟨ri,jP c.states (eO p ri) (K-0) 0,-1⟩) else dU p s ri 0 K j (iZ c (p.rules.getD ri.toNat ar) ⟨ri,jP c.states (eO p ri) (K-0) 0,-1⟩) (xs++[⟨ri,jP c.states (eO p ri) (K-0) 0,-1⟩]):=rfl
  rw[eA]
  by_cases h1:jP c.states (eO p ri) (K-0) 0<0
  ·rw[if_pos h1,if_pos h1,if_pos (by decide)]
  rw[if_neg h1,if_neg h1]
  by_cases h2:ii p s c ⟨ri,jP c.states (eO p ri) (K-0) 0,-1⟩≠0
  ·rw[if_pos h2,if_pos h2,if_pos h2]
  rw[if_neg h2,if_neg h2,ih]
theorem H5 (p:au) (s:bA) (c:aR) (ri:Int) (n m:Nat):gC p s c ri n m=tO p s ri n c.correct.toNat c.states.length (n+m) 0 c []:=by
 rw[DK p s ri n c.correct.toNat c.states.length m n 0 c [] (Nat.zero_add n)]
 rfl
theorem oQ {p:au} {s:bA} {c:aR} {ri:Int} {n m:Nat} (h:gu p s c):((gC p s c ri n m).2.2=0/\gu p s (gC p s c ri n m).1/\(gC p s c ri n m).2.1.length=n+m)\/((gC p s c ri n m).2.2≠0/\(gC p s c ri n m).1=fC/\(gC p s c ri n m).2.1=[]):=by
 unfold gC
 rcases mW p s ri 0 c.correct.toNat n c [] h with ⟨a,b,_,_,e⟩|⟨a,_,_⟩
 ·rw[if_neg (fun y=>y a)]
  rcases mW p s ri c.correct.toNat c.states.length m _ (dU p s ri 0 c.correct.toNat n c []).2.1 b with ⟨x,y,_,_,z⟩|h
  ·exact .inl ⟨x,y,by rw[z,e];simp⟩
  ·exact .inr h
 ·rw[if_pos a];exact .inr ⟨a,rfl,rfl⟩
theorem H6 (p:au) (s:bA) (c:aR) (hp:gM p) (h:gu p s c) (hV:ab Tryz.prog 111 [.agg (aO p), .agg (cj s), .agg (aW c)] (fun u=>u= .int .i64 0)) (ri:Int) (hr:0<=ri/\ri<p.rules.length) (hk1:∀i,K1 p ⟨ri,i,-1⟩) (n m:Nat) (hn:n<=8) (hm:m<=8):
  ab Tryz.prog 49 [.agg (aO p), .agg (cj s), .agg (aW c), .int .i64 ri, .int .i64 (n:Int), .int .i64 (m:Int)] (fun u=>u=vS (gC p s c ri n m)):=by
 have hle:=b7 h.big
 have hcor:=h.vc.cor
 have hlen:=h.vc.len
 have hsz:=h.sz
 have hmod:s.n-s.f<=iU p s:=by unfold iU;split<;>omega
 have eC:c.correct=((c.correct.toNat:Nat):Int):=(Int.toNat_of_nonneg (by omega)).symm
 have kE:=oQ (ri:=ri) (n:=n) (m:=m) h
 have eD:=H5 p s c ri n m
 generalize gC p s c ri n m=R at kE eD⊢
 have hK:=JN c h.wide
 refine ab.sub (R:=fun u=>(R.2.2=0/\u=vS R)\/(R.2.2≠0/\u= .tup [.agg eH, .nilsl, .int .i64 R.2.2])) ?_ (by
  rintro _ (⟨_,rfl⟩|⟨h0,rfl⟩)
  ·exact⟨_,rfl,by unfold vS aW;repeat' (first|exact True.intro|exact rfl|(refine And.intro ?_ ?_)|((conv=>whnf);omega)|((conv=>whnf);simp only[List.length_append,List.length_cons,List.length_nil];done)|((conv=>whnf);simp only[List.length_append,List.length_cons,List.length_nil];omega)),rfl⟩
  ·rcases kE with ⟨k1,_⟩|⟨_,k2,k3⟩
   ·exact absurd k1 h0
   ·exact⟨_,rfl,by unfold vS;rw[k2,k3];repeat' (first|exact True.intro|exact rfl|(refine And.intro ?_ ?_)|((conv=>whnf);omega)|((conv=>whnf);simp only[List.length_append,List.length_cons,List.length_nil];done)|((conv=>whnf);simp only[List.length_append,List.length_cons,List.length_nil];omega)),rfl⟩)
 clear kE
 refine ab.intro ac ag Tryz.func49 rfl (by decide) ?_;(conv=>whnf)
 refine al rfl ?_
 conv=>whnf
 refine al rfl ?_
 conv=>whnf
 refine al rfl ?_
 conv=>whnf
 (refine oP (hV) ?_;conv=>whnf)
 refine fI ?_
 conv=>whnf
 refine fI ?_
 conv=>whnf
 refine fI ?_
 conv=>whnf
 refine fI ?_
 conv=>whnf
 refine fI ?_
 conv=>whnf
 refine fI ?_
 conv=>whnf
 refine fI ?_
 conv=>whnf
 (refine oP (hK) ?_;conv=>whnf)
 refine aH.loopF ac ag (fun y:Nat×aR×List dH=>y.1<=n+m/\gu p s y.2.1/\(y.2.1.states.length=c.states.length/\y.2.1.correct=c.correct)/\y.2.2.length=y.1/\R=tO p s ri n c.correct.toNat c.states.length (n+m-y.1) y.1 y.2.1 y.2.2) (fun y=>[(18, .int .i64 (y.1:Int)),(17, .row 1000 y.2.2.length 3)]) (fun y=>[(16, .box 36 (aW y.2.1)),(12, .box 36 eH),(1000, .row 80 ig de y.2.2)]) (fun y=>n+m-y.1) (0,c,[]) ⟨Nat.zero_le _,h,⟨rfl,rfl⟩,rfl,eD⟩ ?_;conv=>whnf
 refine⟨aL.by_ [(16, .old 16),(12, .old 12),(1000, .nil 3)] _ 400 rfl (aa) (aa),?_⟩
 rintro⟨k,d,xs⟩ ⟨hk,hd,⟨hl,hl2⟩,hx,hE⟩
 dsimp only at hk hd hl hl2 hx hE
 have hw:=b8 hd.wide
 have hcd:xw d:=by unfold xw;omega
 conv=>whnf
 refine aI ?_
 conv=>whnf
 refine ah ?_ ?_<;>(intro g1;conv=>whnf)
 ·have hkn:k<n+m:=by omega
  have e1:n+m-k=(n+m-(k+1))+1:=by omega
  rw[e1] at hE
  clear e1
  have eA:tO p s ri n c.correct.toNat c.states.length (n+m-(k+1)+1) k d xs=if v7 p ri n c.correct.toNat c.states.length k d<0 then(fC,[],9) else if ii p s d ⟨ri,v7 p ri n c.correct.toNat c.states.length k d,-1⟩≠0 then(fC,[],ii p s d ⟨ri,v7 p ri n c.correct.toNat c.states.length k d,-1⟩) else tO p s ri n c.correct.toNat c.states.length (n+m-(k+1)) (k+1) (iZ d (p.rules.getD ri.toNat ar) ⟨ri,v7 p ri n c.correct.toNat c.states.length k d,-1⟩) (xs++[⟨ri,v7 p ri n c.correct.toNat c.states.length k d,-1⟩]):=rfl
  rw[eA] at hE
  clear eA
  have hT:ab Tryz.prog 113 [.agg (aW d), .int .i64 (eO p ri), .bool (decide (n<=k))] (fun u=>u= .int .i64 (v7 p ri n c.correct.toNat c.states.length k d)):=by
   have hf:=HZ d (eO p ri) (decide (n<=k)) (by omega)
   have e2:Ad d (eO p ri) (decide (n<=k)) d.states.length 0=v7 p ri n c.correct.toNat c.states.length k d:=by
    unfold v7
    by_cases g:n<=k
    ·rw[if_pos g,decide_eq_true g,Gp d _ c.correct.toNat (by rw[hl2];exact eC) _ _ (Nat.zero_le _) (by omega),Nat.zero_add,hl]
    ·rw[if_neg g,decide_eq_false g,Gn d _ c.correct.toNat (by rw[hl2];exact eC) _ _ (by omega)]
   rw[e2] at hf
   exact hf
  have hA:=fun i=>HX p s d ⟨ri,i,-1⟩ hp hcd (hk1 i)
  generalize v7 p ri n c.correct.toNat c.states.length k d=i at hE hT
  have hA:=hA i
  refine dI ?_
  conv=>whnf
  refine nI ?_
  conv=>whnf
  refine ah (fun g0=>?_) (fun g0=>?_)
  all_goals
   first
    |rw[decide_eq_true (by omega:n<=k)] at hT
    |rw[decide_eq_false (by omega:¬n<=k)] at hT
   conv=>whnf
   (refine oC (hT) ?_;conv=>whnf)
   refine ah ?_ ?_<;>(intro g2;conv=>whnf)
  all_goals first
   |rw[if_pos g2] at hE
   |rw[if_neg g2] at hE
  iterate 2
   rotate_left
   ·by_cases h0:ii p s d ⟨ri,i,-1⟩=0
    rotate_left
    ·rw[if_pos h0] at hE
     rw[yL h0] at hA
     rw[hE]
     generalize ii p s d ⟨ri,i,-1⟩=e at h0 hA
     (refine oP (hA) ?_;conv=>whnf)
     refine da h0 ?_
     conv=>whnf
     exact⟨.inr ⟨h0,rfl⟩,rfl⟩
    rw[if_neg (fun y=>y h0)] at hE
    obtain⟨eA,q1,q2⟩:=tL h0
    have hrx:=tM hd h0
    have hlx:(iZ d (p.rules.getD ri.toNat ar) ⟨ri,i,-1⟩).states.length=d.states.length:=gN _ _ _
    have hcx:(iZ d (p.rules.getD ri.toNat ar) ⟨ri,i,-1⟩).correct=d.correct:=rfl
    rw[eA] at hA
    have eR:mU p ⟨ri,i,-1⟩=p.rules.getD ri.toNat ar:=rfl
    rw[eR] at hA
    generalize iZ d (p.rules.getD ri.toNat ar) ⟨ri,i,-1⟩=d' at hA hE hrx hlx hcx
    (refine oP (hA) ?_;conv=>whnf)
    refine fI ?_
    conv=>whnf
    refine bw ig de [⟨ri,i,-1⟩] rfl ?_
    conv=>whnf
    refine bD [⟨ri,i,-1⟩] rfl lI ?_
    conv=>whnf
    refine aI ?_
    conv=>whnf
    exact⟨(k+1,d',xs++[⟨ri,i,-1⟩]),aL.by_ [(16, .old 16),(12, .old 12),(1000, .old 98)] _ 400 rfl (aa) (aa),⟨by dsimp only;omega,hrx,by dsimp only;omega,by dsimp only;rw[List.length_append,List.length_singleton];omega,hE⟩,by dsimp only;omega⟩
  all_goals
   rw[hE]
   exact⟨.inr ⟨by decide,rfl⟩,rfl⟩
 ·obtain rfl:k=n+m:=by omega
  rw[Nat.sub_self] at hE
  rw[hE]
  exact⟨.inl ⟨rfl,rfl⟩,rfl⟩
theorem H7 (p:au) (s:bA) (c:aR) (hp:gM p) (hc:xw c) (ri n m:Int):ab Tryz.prog 49 [.agg (aO p), .agg (cj s), .agg (aW c), .int .i64 ri, .int .i64 n, .int .i64 m] (fun u=>u=vS (FJ p s c ri n m)):=by
 have hV:=FG p s c hp hc
 unfold FJ
 by_cases h1:qZ p s c≠0
 ·rw[if_pos h1]
  generalize qZ p s c=e at hV h1
  refine ab.sub (R:=fun u=>u= .tup [.agg eH, .nilsl, .int .i64 e]) ?_ (by rintro _ rfl;exact⟨_,rfl,aa,rfl⟩)
  refine ab.intro ac ag Tryz.func49 rfl (by decide) ?_;(conv=>whnf)
  refine al rfl ?_
  conv=>whnf
  refine al rfl ?_
  conv=>whnf
  refine al rfl ?_
  conv=>whnf
  (refine oP (hV) ?_;conv=>whnf)
  refine da h1 ?_
  conv=>whnf
  exact⟨rfl,rfl⟩
 rw[if_neg h1]
 have h1:=Classical.not_not.1 h1
 obtain⟨k1,k2,k3,h,k5⟩:=HV h1
 by_cases h2:ri<0\/p.rules.length<=ri
 ·rw[if_pos h2]
  refine ab.sub (R:=fun u=>u= .tup [.agg eH, .nilsl, .int .i64 6]) ?_ (by rintro _ rfl;exact⟨_,rfl,aa,rfl⟩)
  refine ab.intro ac ag Tryz.func49 rfl (by decide) ?_;(conv=>whnf)
  refine al rfl ?_
  conv=>whnf
  refine al rfl ?_
  conv=>whnf
  refine al rfl ?_
  conv=>whnf
  (refine oP (hV) ?_;conv=>whnf)
  refine fI ?_
  conv=>whnf
  repeat' (refine ah ?_ ?_<;>(intro _;conv=>whnf))
  all_goals first
   |exact⟨rfl,rfl⟩
   |(exfalso;omega)
 rw[if_neg h2]
 by_cases h3:n<0\/8<n\/m<0\/8<m
 ·rw[if_pos h3]
  refine ab.sub (R:=fun u=>u= .tup [.agg eH, .nilsl, .int .i64 1]) ?_ (by rintro _ rfl;exact⟨_,rfl,aa,rfl⟩)
  refine ab.intro ac ag Tryz.func49 rfl (by decide) ?_;(conv=>whnf)
  refine al rfl ?_
  conv=>whnf
  refine al rfl ?_
  conv=>whnf
  refine al rfl ?_
  conv=>whnf
  (refine oP (hV) ?_;conv=>whnf)
  refine fI ?_
  conv=>whnf
  refine fI ?_
  conv=>whnf
  refine fI ?_
  conv=>whnf
  repeat' (refine ah ?_ ?_<;>(intro _;conv=>whnf))
  all_goals first
   |exact⟨rfl,rfl⟩
   |(exfalso;omega)
 rw[if_neg h3]
 rw[h1] at hV
 have hA:=H6 p s c hp h hV ri (by omega) (DG k2 h.val (by omega)) n.toNat m.toNat (by omega) (by omega)
 rw[Int.toNat_of_nonneg (by omega:0<=n),Int.toNat_of_nonneg (by omega:0<=m)] at hA
 exact hA
theorem xz (l:List dH) (hl:l.length<=1000000):ab Tryz.prog 52 [.sl ig de l, .sl ig de l] (fun u=>u= .bool true):=by
 refine ab.intro ac ag Tryz.func52 rfl (by decide) ?_;(conv=>whnf)
 refine fI ?_
 conv=>whnf
 refine aH.loopF ac ag (fun k:Nat=>k<=l.length) (fun k=>[(5, .int .i64 (k:Int))]) (fun _=>[]) (fun k=>l.length-k) 0 (Nat.zero_le _) ?_;conv=>whnf
 refine⟨sI,?_⟩
 rintro k hk
 conv=>whnf
 refine ah ?_ ?_<;>(intro g1;conv=>whnf)
 ·refine dI ?_
  conv=>whnf
  refine nI ?_
  conv=>whnf
  refine nI ?_
  conv=>whnf
  refine j' (fun hh=>hh rfl) ?_
  conv=>whnf
  repeat' ((first|refine nI ?_|refine aI ?_|refine tI ?_|refine fI ?_|fail);conv=>whnf)
  exact⟨k+1,sI,by omega,by dsimp only;omega⟩
 ·exact⟨rfl,rfl⟩
theorem DL (c:aR) (hw:ct c=false):ab Tryz.prog 51 [.agg (aW c), .agg (aW c)] (fun u=>u= .bool true):=by
 have hc:=b8 hw
 refine ab.intro ac ag Tryz.func51 rfl (by decide) ?_;(conv=>whnf)
 refine al rfl ?_
 conv=>whnf
 refine al rfl ?_
 conv=>whnf
 refine da rfl ?_
 conv=>whnf
 refine da rfl ?_
 conv=>whnf
 (refine oP (jk c.shape (by omega)) ?_;conv=>whnf)
 (refine oP (jk c.states (by omega)) ?_;conv=>whnf)
 (refine oP (jk c.sent (by omega)) ?_;conv=>whnf)
 (refine oP (jk c.faulty (by omega)) ?_;conv=>whnf)
 exact⟨rfl,rfl⟩
end Go.Proofs.YtnjggjhkfncnlaaGreatDoor
