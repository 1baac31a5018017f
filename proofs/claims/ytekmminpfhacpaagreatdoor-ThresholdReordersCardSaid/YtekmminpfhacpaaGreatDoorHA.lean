import Derived.Test.YtekmminpfhacpaaGreatDoorGA
import Derived.Test.YtekmminpfhacpaaGreatDoorY1
import Derived.Test.YtekmminpfhacpaaGreatDoorFtE
import Derived.Test.YtekmminpfhacpaaGreatDoorM6
import Derived.Test.YtekmminpfhacpaaGreatDoorW3
set_option linter.unusedVariables false
set_option linter.unusedSimpArgs false
namespace Go.Proofs.YtekmminpfhacpaaGreatDoor
set_option maxRecDepth 100000
set_option maxHeartbeats 16000000
theorem ab.nilA {f:FuncId} {R:AV->Prop} (h:∀b c,ab Tryz.prog f [.val (.slice b 0 c)] R):ab Tryz.prog f [.sl (0:Int) ao []] R:=by
 simp only[dv] at*
 refine⟨(h none 0).1,fun S F vs w hG hS hF hd hv=>?_⟩
 obtain⟨v,vs',rfl,hr,hn⟩:=hv.cons_inv
 cases hr with
 |sl _ _ _ base cap sz vals hcap ho hsz hb hnn hvv=>exact(h base cap).2 S F _ w hG hS hF hd (gU.cons (.val _) hn)
theorem vf (l:List Int) (hl:l.length<=1000):ab Tryz.prog 39 [.sl 0 ao l] (fun u=>u= .sl 0 ao l):=by
 by_cases h0:l=[]
 ·subst h0
  refine ab.nilA fun b c=>?_
  cases b with
  |none=>
   refine ab.sub (R:=fun u=>u= .nilsl) ?_ (by rintro _ rfl;exact⟨_,rfl,aa,rfl⟩)
   refine ab.intro ae ag Tryz.func39 rfl (by decide) ?_;(conv=>whnf)
   conv=>whnf
   exact⟨rfl,rfl⟩
  |some ad=>
   refine ab.intro ae ag Tryz.func39 rfl (by decide) ?_;(conv=>whnf)
   conv=>whnf
   refine cf 0 ao [] rfl ?_
   conv=>whnf
   refine cz [] rfl (by simp only[List.length_nil];omega) ?_
   conv=>whnf
   exact⟨rfl,rfl⟩
 ·exact mM l (List.length_pos_iff.2 h0) hl
theorem Nk (c:az) (hw:bA c=false):ab Tryz.prog 90 [.agg (aW c)] (fun u=>u= .agg (aW c)):=by
 have hc:=bE hw
 have h1:=vf c.shape (by omega)
 have h2:=vf c.states (by omega)
 have h3:=vf c.sent (by omega)
 have h4:=vf c.faulty (by omega)
 refine ab.intro ae ag Tryz.func90 rfl (by decide) ?_;(conv=>whnf)
 refine BF ?_
 conv=>whnf
 refine dI ?_
 conv=>whnf
 (refine oC (h1) ?_;conv=>whnf)
 (refine oC (h2) ?_;conv=>whnf)
 (refine oC (h3) ?_;conv=>whnf)
 (refine oC (h4) ?_;conv=>whnf)
 exact⟨rfl,rfl⟩
def lE (l:List Int) (st:Int):Nat->Nat->Int
 |0,_=>-1
 |n+1,i=>if l.getD i 0=st then(i:Int) else lE l st n (i+1)
theorem LD (c:az) (st:Int) (lo hi:Nat) (hh:hi<=c.states.length) (hb:hi<=1000000):ab Tryz.prog 252 [.agg (aW c), .int .i64 st, .int .i64 (lo:Int), .int .i64 (hi:Int)] (fun u=>u= .int .i64 (lE c.states st (hi-lo) lo)):=by
 refine ab.intro ae ag Tryz.func252 rfl (by decide) ?_;(conv=>whnf)
 refine al rfl ?_
 conv=>whnf
 refine aQ.loopF ae ag (fun i:Nat=>lo<=i/\lE c.states st (hi-lo) lo=lE c.states st (hi-i) i) (fun i=>[(9, .int .i64 (i:Int))]) (fun _=>[]) (fun i=>hi-i) lo ⟨Nat.le_refl _,rfl⟩ ?_;conv=>whnf
 refine⟨sI,?_⟩
 rintro i ⟨h1,h2⟩
 conv=>whnf
 refine ah ?_ ?_<;>(intro g1;conv=>whnf)
 ·have hil:i<hi:=by omega
  have e:hi-i=(hi-(i+1))+1:=by omega
  have e2:lE c.states st (hi-i) i=if c.states.getD i 0=st then(i:Int) else lE c.states st (hi-(i+1)) (i+1):=by rw[e];rfl
  refine nI ?_
  rw[tN]
  conv=>whnf
  refine ah ?_ ?_<;>(intro g2;conv=>whnf)
  ·exact⟨C6 (by rw[h2,e2,if_pos g2]),rfl⟩
  ·repeat' ((first|refine nI ?_|refine aI ?_|refine fb trivial (by omega) ?_|refine fv trivial (by omega) ?_|refine dI ?_|refine dR ?_|refine dP ?_|refine al rfl ?_|refine pI _ rfl ?_|refine aw _ rfl ?_|refine tI ?_|refine fI ?_|refine ah (fun _=>?_) (fun _=>?_))<;>conv=>whnf)
   exact⟨i+1,sI,⟨by omega,by rw[h2,e2,if_neg g2]⟩,by dsimp only;omega⟩
 ·exact⟨C6 (by rw[h2,show hi-i=0 by omega];rfl),rfl⟩
def ph:bH:=⟨0,0,0⟩
noncomputable def jI (p:an) (s:aJ) (c:az) (x:bH):Int:=
 if cF p s c≠0 then cF p s c else if¬mL p s c x false then 9 else if¬nV c (ce p x) x then 4 else 0
theorem vg {p:an} {s:aJ} {c:az} {x:bH} (h:jI p s c x=0):CH p s c x= .tup [.agg (aW (eD c (ce p x) x)), .int .i64 0]/\mL p s c x false/\nV c (ce p x) x:=by
 unfold jI at h
 unfold CH
 by_cases h1:cF p s c≠0
 ·rw[if_pos h1] at h;exact absurd h h1
 rw[if_neg h1] at h⊢
 by_cases h2:¬mL p s c x false
 ·rw[if_pos h2] at h;omega
 rw[if_neg h2] at h⊢
 by_cases h3:¬nV c (ce p x) x
 ·rw[if_pos h3] at h;omega
 rw[if_neg h3]
 exact⟨rfl,Classical.not_not.1 h2,Classical.not_not.1 h3⟩
theorem IU {p:an} {s:aJ} {c:az} {x:bH} (h:jI p s c x≠0):CH p s c x= .tup [.agg (aW aU), .int .i64 (jI p s c x)]:=by
 unfold jI at h⊢
 unfold CH
 by_cases h1:cF p s c≠0
 ·rw[if_pos h1,if_pos h1]
 rw[if_neg h1] at h⊢
 rw[if_neg h1]
 by_cases h2:¬mL p s c x false
 ·rw[if_pos h2,if_pos h2]
 rw[if_neg h2] at h⊢
 rw[if_neg h2]
 by_cases h3:¬nV c (ce p x) x
 ·rw[if_pos h3,if_pos h3]
 ·rw[if_neg h3] at h;exact absurd rfl h
def bU (p:an) (ri:Int):Int:=(p.rules.getD ri.toNat ap).src
noncomputable def dq (p:an) (s:aJ) (ri:Int) (lo hi:Nat):Nat->az->List bH->az×List bH×Int
 |0,c,xs=>(c,xs,0)
 |n+1,c,xs=>
  if lE c.states (bU p ri) (hi-lo) lo<0 then(aU,[],9)
  else if jI p s c ⟨ri,lE c.states (bU p ri) (hi-lo) lo,-1⟩≠0 then(aU,[],jI p s c ⟨ri,lE c.states (bU p ri) (hi-lo) lo,-1⟩)
  else dq p s ri lo hi n (eD c (p.rules.getD ri.toNat ap) ⟨ri,lE c.states (bU p ri) (hi-lo) lo,-1⟩) (xs++[⟨ri,lE c.states (bU p ri) (hi-lo) lo,-1⟩])
def IV (xs:List bH) (R:az×List bH×Int):az×List bH×Int:=if R.2.2=0 then(R.1,xs++R.2.1,0) else(aU,[],R.2.2)
theorem xw (p:an) (s:aJ) (ri:Int) (lo hi:Nat):∀n c xs ys,dq p s ri lo hi n c (xs++ys)=IV xs (dq p s ri lo hi n c ys)
 |0,c,xs,ys=>rfl
 |n+1,c,xs,ys=>by
  unfold dq
  by_cases h1:lE c.states (bU p ri) (hi-lo) lo<0
  ·rw[if_pos h1,if_pos h1];rfl
  rw[if_neg h1,if_neg h1]
  by_cases h2:jI p s c ⟨ri,lE c.states (bU p ri) (hi-lo) lo,-1⟩≠0
  ·rw[if_pos h2,if_pos h2];unfold IV;rw[if_neg h2]
  rw[if_neg h2,if_neg h2,List.append_assoc,xw p s ri lo hi n]
theorem qi {p:an} {s:aJ} {c:az} {ri i:Int} (h:dx p s c) (he:jI p s c ⟨ri,i,-1⟩=0):dx p s (eD c (p.rules.getD ri.toNat ap) ⟨ri,i,-1⟩):=by
 obtain⟨_,a,b⟩:=vg he
 exact h.next a b
theorem l8 (p:an) (s:aJ) (ri:Int) (lo hi:Nat):∀n c xs,dx p s c->
  ((dq p s ri lo hi n c xs).2.2=0/\dx p s (dq p s ri lo hi n c xs).1/\(dq p s ri lo hi n c xs).1.states.length=c.states.length/\(dq p s ri lo hi n c xs).1.correct=c.correct/\(dq p s ri lo hi n c xs).2.1.length=xs.length+n)\/
  ((dq p s ri lo hi n c xs).2.2≠0/\(dq p s ri lo hi n c xs).1=aU/\(dq p s ri lo hi n c xs).2.1=[])
 |0,c,xs,h=>.inl ⟨rfl,h,rfl,rfl,rfl⟩
 |n+1,c,xs,h=>by
  unfold dq
  by_cases h1:lE c.states (bU p ri) (hi-lo) lo<0
  ·rw[if_pos h1];exact .inr ⟨by decide,rfl,rfl⟩
  rw[if_neg h1]
  by_cases h2:jI p s c ⟨ri,lE c.states (bU p ri) (hi-lo) lo,-1⟩≠0
  ·rw[if_pos h2];exact .inr ⟨h2,rfl,rfl⟩
  rw[if_neg h2]
  have h2:=Classical.not_not.1 h2
  have ih:=l8 p s ri lo hi n _ (xs++[⟨ri,lE c.states (bU p ri) (hi-lo) lo,-1⟩]) (qi h h2)
  rw[List.length_append,List.length_singleton] at ih
  have hl:(eD c (p.rules.getD ri.toNat ap) ⟨ri,lE c.states (bU p ri) (hi-lo) lo,-1⟩).states.length=c.states.length:=hZ _ _ _
  rcases ih with ⟨a,b,d,e,f⟩|ih
  ·exact .inl ⟨a,b,d.trans hl,e,by omega⟩
  ·exact .inr ih
def LE (R:az×List bH×Int) (u:AV) (M:aj):Prop:=(R.2.2=0/\u= .tup [.agg (aW R.1), .row 1000 R.2.1.length 3, .int .i64 0]/\M 1000=some (.row 77 ph dG R.2.1))\/(R.2.2≠0/\u= .tup [.agg jj, .nilsl, .int .i64 R.2.2])
theorem AP (p:an) (s:aJ) (c:az) (hp:iO p) (h:dx p s c) (ri:Int) (hr:0<=ri/\ri<p.rules.length) (hk1:∀i,K1 p ⟨ri,i,-1⟩) (n:Nat) (hn:n<=8) (lo hi:Nat) (hh:hi<=c.states.length):
  am Tryz.prog 181 [.agg (aR p), .agg (cq s), .agg (aW c), .int .i64 ri, .int .i64 (n:Int), .int .i64 (lo:Int), .int .i64 (hi:Int)] (aj.ofL []) (LE (dq p s ri lo hi n c [])):=by
 have hle:=bL h.big
 refine am.intro ae ag [] Tryz.func181 rfl (by decide) ?_
 conv=>whnf
 refine al rfl ?_
 conv=>whnf
 refine al rfl ?_
 conv=>whnf
 refine BF ?_
 conv=>whnf
 refine aQ.loopF ae ag (fun y:Nat×az×List bH=>y.1<=n/\dx p s y.2.1/\y.2.1.states.length=c.states.length/\y.2.2.length=y.1/\dq p s ri lo hi n c []=dq p s ri lo hi (n-y.1) y.2.1 y.2.2) (fun y=>[(22, .int .i64 (y.1:Int)),(17, .row 1000 y.2.2.length 3)]) (fun y=>[(9, .box 61 (aW y.2.1)),(14, .box 61 jj),(1000, .row 77 ph dG y.2.2)]) (fun y=>n-y.1) (0,c,[]) ⟨Nat.zero_le _,h,rfl,rfl,rfl⟩ ?_;conv=>whnf
 refine⟨bn.by_ [(9, .old 9),(14, .old 14),(1000, .nil 3)] _ 400 rfl (aa) (aa),?_⟩
 rintro⟨k,d,xs⟩ ⟨hk,hd,hl,hx,hE⟩
 dsimp only at hk hd hl hx hE
 have hw:=bE hd.wide
 have hcd:AN d:=by unfold AN;omega
 conv=>whnf
 refine ah ?_ ?_<;>(intro g1;conv=>whnf)
 ·have hkn:k<n:=by omega
  have e1:n-k=(n-(k+1))+1:=by omega
  rw[e1] at hE
  clear e1
  have eA:dq p s ri lo hi (n-(k+1)+1) d xs=if lE d.states (bU p ri) (hi-lo) lo<0 then(aU,[],9) else if jI p s d ⟨ri,lE d.states (bU p ri) (hi-lo) lo,-1⟩≠0 then(aU,[],jI p s d ⟨ri,lE d.states (bU p ri) (hi-lo) lo,-1⟩) else dq p s ri lo hi (n-(k+1)) (eD d (p.rules.getD ri.toNat ap) ⟨ri,lE d.states (bU p ri) (hi-lo) lo,-1⟩) (xs++[⟨ri,lE d.states (bU p ri) (hi-lo) lo,-1⟩]):=rfl
  rw[eA] at hE
  clear eA
  have hT:=LD d (bU p ri) lo hi (by omega) (by omega)
  have hA:=fun i=>LC p s d ⟨ri,i,-1⟩ hp hcd (hk1 i)
  generalize lE d.states (bU p ri) (hi-lo) lo=i at hE hT
  have hA:=hA i
  refine dI ?_
  conv=>whnf
  refine nI ?_
  conv=>whnf
  (refine oC (hT) ?_;conv=>whnf)
  refine ah ?_ ?_<;>(intro g2;conv=>whnf)
  ·rw[if_pos g2] at hE
   rw[hE]
   exact .inr ⟨by decide,rfl⟩
  rw[if_neg g2] at hE
  by_cases h0:jI p s d ⟨ri,i,-1⟩=0
  rotate_left
  ·rw[if_pos h0] at hE
   rw[IU h0] at hA
   rw[hE]
   generalize jI p s d ⟨ri,i,-1⟩=e at h0 hA
   (refine oP (hA) ?_;conv=>whnf)
   refine cC h0 ?_
   conv=>whnf
   exact .inr ⟨h0,rfl⟩
  rw[if_neg (fun y=>y h0)] at hE
  obtain⟨eA,q1,q2⟩:=vg h0
  have hrx:=qi hd h0
  have hlx:(eD d (p.rules.getD ri.toNat ap) ⟨ri,i,-1⟩).states.length=d.states.length:=hZ _ _ _
  rw[eA] at hA
  have eR:ce p ⟨ri,i,-1⟩=p.rules.getD ri.toNat ap:=rfl
  rw[eR] at hA
  generalize eD d (p.rules.getD ri.toNat ap) ⟨ri,i,-1⟩=d' at hA hE hrx hlx
  (refine oP (hA) ?_;conv=>whnf)
  refine fI ?_
  conv=>whnf
  refine ni ?_
  conv=>whnf
  repeat' first
   |exact True.intro
   |(refine cf ph dG [⟨ri,i,-1⟩] rfl ?_;conv=>whnf)
   |(refine fl ?_;conv=>whnf)
   |(refine cz [⟨ri,i,-1⟩] rfl lI ?_;conv=>whnf)
   |(refine aI ?_;conv=>whnf)
   |exact⟨(k+1,d',xs++[⟨ri,i,-1⟩]),bn.by_ [(9, .old 9),(14, .old 14),(1000, .old 56)] _ 400 rfl (aa) (aa),⟨by dsimp only;omega,hrx,by dsimp only;omega,by dsimp only;rw[List.length_append,List.length_singleton];omega,hE⟩,by dsimp only;omega⟩
   |(refine And.intro ?_ ?_<;>conv=>whnf)
   |fail
 ·obtain rfl:k=n:=by omega
  rw[Nat.sub_self] at hE
  rw[hE]
  exact .inl ⟨rfl,rfl,rfl⟩
noncomputable def fU (p:an) (s:aJ) (c:az) (ri:Int) (n m:Nat):az×List bH×Int:=
 if(dq p s ri 0 c.correct.toNat n c []).2.2≠0 then(aU,[],(dq p s ri 0 c.correct.toNat n c []).2.2)
 else dq p s ri c.correct.toNat c.states.length m (dq p s ri 0 c.correct.toNat n c []).1 (dq p s ri 0 c.correct.toNat n c []).2.1
def Nl (R:az×List bH×Int):AV:=.tup [.agg (aW R.1), .sl ph dG R.2.1, .int .i64 R.2.2]
theorem AQ {R:az×List bH×Int} {ℓ:Nat} (h:R.2.2=0):∀u M',LE R u M'->dV [(ℓ, .old 1000)] 400 M' [(ℓ, .row 77 ph dG R.2.1)]/\kQ [(ℓ, .old 1000)] 400 u (.tup [.agg (aW R.1), .row ℓ R.2.1.length 3, .int .i64 0]):=by
 rintro u M' (⟨_,rfl,hM⟩|⟨h1,_⟩)
 ·constructor
  ·simp[dV,aV,ox,hM]
  ·simp[kQ,iP,aV,aW]
 ·exact absurd h h1
theorem F5 {R:az×List bH×Int} (h:R.2.2≠0):∀u M',LE R u M'->dV [] 400 M' []/\kQ [] 400 u (.tup [.agg jj, .nilsl, .int .i64 R.2.2]):=by
 rintro u M' (⟨h1,_⟩|⟨_,rfl⟩)
 ·exact absurd h1 h
 ·exact⟨trivial,aa⟩
theorem LF (p:an) (s:aJ) (c:az) (hp:iO p) (h:dx p s c) (ri:Int) (hr:0<=ri/\ri<p.rules.length) (hk1:∀i,K1 p ⟨ri,i,-1⟩) (n m:Nat) (hn:n<=8) (hm:m<=8):
  ab Tryz.prog 92 [.agg (aR p), .agg (cq s), .agg (aW c), .int .i64 ri, .int .i64 (n:Int), .int .i64 (m:Int)] (fun u=>u=Nl (fU p s c ri n m)):=by
 have hcor:=h.vc.cor
 have hlen:=h.vc.len
 have hsz:=h.sz
 have hmod:s.n-s.f<=gk p s:=by unfold gk;split<;>omega
 have hw:=bE h.wide
 have hA:=AP p s c hp h ri hr hk1 n hn 0 c.correct.toNat (by omega)
 have kA:=l8 p s ri 0 c.correct.toNat n c [] h
 have eC:((c.correct.toNat:Nat):Int)=c.correct:=Int.toNat_of_nonneg (by omega)
 rw[eC] at hA
 unfold fU
 generalize dq p s ri 0 c.correct.toNat n c []=A at hA kA⊢
 rcases kA with ⟨a1,a2,a3,a4,a5⟩|⟨a1,a2,a3⟩
 rotate_left
 ·rw[if_pos a1]
  have hA1:=F5 a1
  generalize A.2.2=e at a1 hA1
  refine ab.sub (R:=fun u=>u= .tup [.agg jj, .nilsl, .int .i64 e]) ?_ (by rintro _ rfl;exact⟨_,rfl,aa,rfl⟩)
  refine ab.intro ae ag Tryz.func92 rfl (by decide) ?_;(conv=>whnf)
  refine al rfl ?_
  conv=>whnf
  refine al rfl ?_
  conv=>whnf
  refine al rfl ?_
  conv=>whnf
  refine am.news 400 [] [] (.tup [.agg jj, .nilsl, .int .i64 e]) hA (aa) rfl hA1 ?_
  conv=>whnf
  refine cC a1 ?_
  conv=>whnf
  exact⟨rfl,rfl⟩
 rw[if_neg (fun y=>y a1)]
 have hB:=AP p s A.1 hp a2 ri hr hk1 m hm c.correct.toNat c.states.length (by omega)
 have kB:=l8 p s ri c.correct.toNat c.states.length m A.1 [] a2
 have eB:=xw p s ri c.correct.toNat c.states.length m A.1 A.2.1 []
 rw[List.append_nil] at eB
 rw[eB,eC] at*
 clear eB
 have hA0:=AQ (ℓ:=1001) a1
 generalize dq p s ri c.correct.toNat c.states.length m A.1 []=B at hB kB⊢
 obtain⟨d,xs,e⟩:=A
 dsimp only at*
 rcases kB with ⟨b1,b2,b3,b4,b5⟩|⟨b1,b2,b3⟩
 rotate_left
 ·have hB1:=F5 b1
  unfold IV
  rw[if_neg b1]
  generalize B.2.2=f at b1 hB1
  refine ab.sub (R:=fun u=>u= .tup [.agg jj, .nilsl, .int .i64 f]) ?_ (by rintro _ rfl;exact⟨_,rfl,aa,rfl⟩)
  refine ab.intro ae ag Tryz.func92 rfl (by decide) ?_;(conv=>whnf)
  refine al rfl ?_
  conv=>whnf
  refine al rfl ?_
  conv=>whnf
  refine al rfl ?_
  conv=>whnf
  refine am.news 400 [(1001, .old 1000)] [(1001, .row 77 ph dG xs)] (.tup [.agg (aW d), .row 1001 xs.length 3, .int .i64 0]) hA (aa) rfl hA0 ?_
  conv=>whnf
  refine fI ?_
  conv=>whnf
  refine am.news 400 [] [] (.tup [.agg jj, .nilsl, .int .i64 f]) hB (aa) rfl hB1 ?_
  conv=>whnf
  refine cC b1 ?_
  conv=>whnf
  exact⟨rfl,rfl⟩
 have hB0:=AQ (ℓ:=1002) b1
 unfold IV
 rw[if_pos b1]
 obtain⟨d',ys,f⟩:=B
 dsimp only at*
 refine ab.intro ae ag Tryz.func92 rfl (by decide) ?_;(conv=>whnf)
 refine al rfl ?_
 conv=>whnf
 refine al rfl ?_
 conv=>whnf
 refine al rfl ?_
 conv=>whnf
 refine am.news 400 [(1001, .old 1000)] [(1001, .row 77 ph dG xs)] (.tup [.agg (aW d), .row 1001 xs.length 3, .int .i64 0]) hA (aa) rfl hA0 ?_
 conv=>whnf
 refine fI ?_
 conv=>whnf
 refine am.news 400 [(1002, .old 1000)] [(1002, .row 77 ph dG ys)] (.tup [.agg (aW d'), .row 1002 ys.length 3, .int .i64 0]) hB (aa) rfl hB0 ?_
 conv=>whnf
 refine fI ?_
 conv=>whnf
 refine AH [1,2] (by decide+kernel) ?_
 conv=>whnf
 repeat' first
  |exact True.intro
  |(refine fl ?_;conv=>whnf)
  |(refine cz ys rfl (by dsimp only;simp only[List.length_nil] at a5 b5;omega) ?_;conv=>whnf)
  |(refine And.intro ?_ ?_<;>conv=>whnf)
  |exact rfl
  |fail
end Go.Proofs.YtekmminpfhacpaaGreatDoor
namespace Go.Proofs.YtekmminpfhacpaaGreatDoor
open Go.ChangeShapes Go.WideShapes Go.ChangeAt Go.RowKit
end Go.Proofs.YtekmminpfhacpaaGreatDoor
namespace Go.Proofs.YtekmminpfhacpaaGreatDoor
set_option maxRecDepth 100000
set_option maxHeartbeats 16000000
theorem AR {p:an} {s:aJ} {c:az} {ri:Int} {n m:Nat} (h:dx p s c):((fU p s c ri n m).2.2=0/\dx p s (fU p s c ri n m).1/\(fU p s c ri n m).2.1.length=n+m)\/((fU p s c ri n m).2.2≠0/\(fU p s c ri n m).1=aU/\(fU p s c ri n m).2.1=[]):=by
 unfold fU
 rcases l8 p s ri 0 c.correct.toNat n c [] h with ⟨a,b,_,_,e⟩|⟨a,_,_⟩
 ·rw[if_neg (fun y=>y a)]
  rcases l8 p s ri c.correct.toNat c.states.length m _ (dq p s ri 0 c.correct.toNat n c []).2.1 b with ⟨x,y,_,_,z⟩|h
  ·exact .inl ⟨x,y,by rw[z,e];simp⟩
  ·exact .inr h
 ·rw[if_pos a];exact .inr ⟨a,rfl,rfl⟩
theorem F6 (c:az) (hw:bA c=false):ab Tryz.prog 35 [.agg (aW c), .agg (aW c)] (fun u=>u= .bool true):=by
 have hc:=bE hw
 refine ab.intro ae ag Tryz.func35 rfl (by decide) ?_;(conv=>whnf)
 refine al rfl ?_
 conv=>whnf
 refine al rfl ?_
 conv=>whnf
 refine cC rfl ?_
 conv=>whnf
 refine cC rfl ?_
 conv=>whnf
 (refine oP (jG c.shape (by omega)) ?_;conv=>whnf)
 (refine oP (jG c.states (by omega)) ?_;conv=>whnf)
 (refine oP (jG c.sent (by omega)) ?_;conv=>whnf)
 (refine oP (jG c.faulty (by omega)) ?_;conv=>whnf)
 exact⟨rfl,rfl⟩
set_option maxHeartbeats 4000000
theorem bj (c d a:Co) (k:Int):∀l,bk (cl c k d) a l=bk c a l+k*bk d a l
 |[]=>by simp[bk]
 |v::l=>by
  rw[bk,bk,bk,bj c d a k l,Int.mul_add,<-Int.mul_assoc]
  show(c v+k*d v)*a v+_=_
  rw[Int.add_mul]
  omega
theorem rX {c d a:Co}:∀{l:List Vb},(∀v∈l,c v<=d v)->(∀v∈l,0<=a v)->bk c a l<=bk d a l
 |[],_,_=>Int.le_refl _
 |v::l,h,ha=>by
  have ih:=rX (l:=l) (fun x hx=>h x (List.mem_cons_of_mem _ hx)) fun x hx=>ha x (List.mem_cons_of_mem _ hx)
  have:=Int.mul_le_mul_of_nonneg_right (h v List.mem_cons_self) (ha v List.mem_cons_self)
  rw[bk,bk]
  omega
def vi (c:Co) (v0:Vb):Co:=fun v=>c v-if v=v0 then 1 else 0
theorem AU {c a:Co} {v0:Vb}:∀{l:List Vb},v0∈l->(∀v∈l,0<=a v)->bk (vi c v0) a l<=bk c a l-a v0
 |[],h,_=>by simp at h
 |v::l,h,ha=>by
  have ha':∀x∈l,0<=a x:=fun x hx=>ha x (List.mem_cons_of_mem _ hx)
  rw[bk,bk]
  by_cases e:v=v0
  ·subst e
   have hm:bk (vi c v) a l<=bk c a l:=rX (fun x _=>by unfold vi;split<;>omega) ha'
   have e1:vi c v v=c v-1:=by simp[vi]
   rw[e1,Int.sub_mul,Int.one_mul]
   omega
  ·have ih:=AU (c:=c) (a:=a) (l:=l) (by simpa[Ne.symm e] using h) ha'
   have e1:vi c v0 v=c v:=by simp[vi,e]
   rw[e1]
   omega
def xx (rs:List bo) (start fire:Int) (seg:Nat):Nat->Co
 |0=>zC
 |m+1=>cl (xx rs start fire seg m) 1 (cn rs start fire (m:Int) (seg+1) 0)
theorem AW (rs:List bo) (start fire:Int) (seg:Nat) (v:Vb):∀m,xx rs start fire seg m v=(if v.kind=start/\v.seg=0/\0<=v.idx/\v.idx<(m:Nat) then 1 else 0)+
  if fJ rs.length fire (seg+1) 0 v then(if 0<=(rs.getD v.idx.toNat ap).dst/\(rs.getD v.idx.toNat ap).dst<(m:Nat) then 1 else 0)-(if 0<=(rs.getD v.idx.toNat ap).src/\(rs.getD v.idx.toNat ap).src<(m:Nat) then 1 else 0) else 0
 |0=>by
  rw[if_neg (by omega)]
  unfold xx zC
  split
  ·rw[if_neg (by omega),if_neg (by omega)];rfl
  ·rfl
 |m+1=>by
  have hv:v=⟨start,0,(m:Int)⟩↔v.kind=start/\v.seg=0/\v.idx=m:=⟨fun e=>by subst e;exact⟨rfl,rfl,rfl⟩,fun e=>kj e.1 e.2.1 e.2.2⟩
  show xx rs start fire seg m v+1*cn rs start fire (m:Int) (seg+1) 0 v=_
  rw[AW rs start fire seg v m]
  unfold cn JM
  generalize (rs.getD v.idx.toNat ap).dst=y
  generalize (rs.getD v.idx.toNat ap).src=x
  have e1:(if v=⟨start,0,(m:Int)⟩ then(1:Int) else 0)=if v.kind=start/\v.seg=0/\v.idx=m then 1 else 0:=by simp only[hv]
  rw[e1]
  by_cases hf:fJ rs.length fire (seg+1) 0 v
  ·rw[if_pos hf,if_pos hf,if_pos hf]
   (repeat' split)<;>omega
  ·rw[if_neg hf,if_neg hf,if_neg hf]
   (repeat' split)<;>omega
theorem F7 {rs:List bo} {start fire:Int} {seg ns:Nat} {a:Co} {vars:List Vb} (h:∀x:Nat,x<ns->0<=bk (cn rs start fire (x:Int) (seg+1) 0) a vars):∀m,m<=ns->0<=bk (xx rs start fire seg m) a vars
 |0,_=>by rw[dN (c:=xx rs start fire seg 0) (fun v _=>rfl)];exact Int.le_refl _
 |m+1,hm=>by
  have ih:=F7 h m (by omega)
  have:=h m (by omega)
  show 0<=bk (cl (xx rs start fire seg m) 1 (cn rs start fire (m:Int) (seg+1) 0)) a vars
  rw[bj]
  omega
theorem F8 {p:an} {sch:List Int} {start fire:Int} {seg:Nat} {a:Co} {vars:List Vb} (ht:dZ p) (hs:start=3/\fire=5\/start=4/\fire=6)
  (hk:∀v∈vars,Ih p sch v) (ha:∀v∈vars,0<=a v) (hr:∀j,j<p.rules.length->0<=(p.rules.getD j ap).src/\(p.rules.getD j ap).src<p.states.length)
  (h:∀x:Nat,x<p.states.length->0<=bk (cn p.rules start fire (x:Int) (seg+1) 0) a vars) {j r:Nat} (hj:j<=seg) (hr0:r<p.rules.length) (hv0:(⟨fire,j,r⟩:Vb)∈vars):a ⟨fire,j,r⟩<=bk (tp start) a vars:=by
 have hsr:=hr r hr0
 obtain⟨m,hm⟩:∃m:Nat,(p.rules.getD r ap).src=m:=⟨(p.rules.getD r ap).src.toNat,by omega⟩
 have h1:=F7 h (m+1) (by omega)
 have h2:bk (xx p.rules start fire seg (m+1)) a vars<=bk (vi (tp start) ⟨fire,j,r⟩) a vars:=by
  refine rX (fun v hv=>?_) ha
  rw[AW]
  have hkv:=hk v hv
  unfold vi tp
  by_cases hf:fJ p.rules.length fire (seg+1) 0 v
  ·rw[if_pos hf]
   obtain⟨f1,f2,f3,f4⟩:=hf
   have hi:v.idx.toNat<p.rules.length:=by
    unfold Ih at hkv
    rcases hkv with (e|e|e)|hkv|hkv
    ·subst e;dsimp only at f1;omega
    ·subst e;dsimp only at f1;omega
    ·subst e;dsimp only at f1;omega
    ·omega
    ·omega
   have h3:=(ht.2.2 v.idx.toNat hi).2.1
   have h4:=hr v.idx.toNat hi
   rw[if_neg (by omega),if_neg (by omega:¬v.kind=start)]
   by_cases e:v=⟨fire,j,r⟩
   ·rw[if_pos e]
    have e2:v.idx.toNat=r:=by rw[e];exact tN r
    rw[e2] at h3 h4⊢
    rw[if_neg (by omega),if_pos (by omega)]
    decide
   ·rw[if_neg e]
    (repeat' split)<;>omega
  ·rw[if_neg hf]
   have hne:v≠⟨fire,j,r⟩:=fun e=>hf (by subst e;exact⟨rfl,by dsimp only;omega,by dsimp only;omega, .inl ⟨by dsimp only;omega,by dsimp only;omega⟩⟩)
   rw[if_neg hne]
   (repeat' split)<;>omega
 have h3:=AU (c:=tp start) hv0 ha
 omega
theorem tF {c d a:Co}:∀{l:List Vb},(∀v∈l,c v=d v)->bk c a l=bk d a l
 |[],_=>rfl
 |v::l,h=>by rw[bk,bk,h v List.mem_cons_self,tF (l:=l) fun x hx=>h x (List.mem_cons_of_mem _ hx)]
theorem rY {l:kG} {v:Vb} (h:3<=v.kind):fT l v=0:=by
 unfold fT
 rw[if_neg (fun e=>by subst e;dsimp only at h;omega),if_neg (fun e=>by subst e;dsimp only at h;omega),if_neg (fun e=>by subst e;dsimp only at h;omega)]
theorem zp {p:an} {q:aG} {sch:List Int} (l:kG) (a:Co):bk (fT l) a (ak p q sch)=l.n*a ⟨0,0,0⟩+l.t*a ⟨1,0,0⟩+l.f*a ⟨2,0,0⟩:=by
 unfold ak
 rw[ja,ja,dN (l:=pP p q) (fun v hv=>rY (by
  unfold pP at hv
  rcases List.mem_append.1 hv with hv|hv
  ·obtain⟨x,_,rfl⟩:=List.mem_map.1 hv;dsimp only;omega
  ·split at hv
   ·obtain⟨x,_,rfl⟩:=List.mem_map.1 hv;dsimp only;omega
   ·simp at hv)),dN (l:=(List.range (sch.length+1)).flatMap fun j=>bN p sch j p.rules.length) (fun v hv=>rY (by
  obtain⟨j,_,hv⟩:=List.mem_flatMap.1 hv
  obtain⟨r,_,hv⟩:=dp hv
  have:=(d4 hv).1
  omega))]
 simp[bk,fT]
 omega
section
variable {p:an} {q:aG} {sch:List Int} {number:Int} {a:Co}
theorem LG (h:aP p q=0) {kind:Int} (hk:kind=3\/kind=4):bk (oZ kind p.states.length) a (ak p q sch)=bk (tp kind) a (ak p q sch):=by
 refine tF fun v hv=>?_
 have hv:=iB h hv
 unfold oZ tp
 by_cases e:v.kind=kind
 ·rw[if_pos e]
  unfold Ih at hv
  rcases hv with (e2|e2|e2)|hv|hv
  ·subst e2;dsimp only at e;omega
  ·subst e2;dsimp only at e;omega
  ·subst e2;dsimp only at e;omega
  ·rw[if_pos ⟨e,hv.2⟩]
  ·omega
 ·rw[if_neg e,if_neg (fun hh=>e hh.1)]
theorem AX (h:aP p q=0) {kind:Int} (hk:kind=3\/kind=4) {l:kG} (hl:l.c=0)
  (h1:0<=(eM kind p.states.length 1 l).2+bk (eM kind p.states.length 1 l).1 a (ak p q sch))
  (h2:0<=(eM kind p.states.length (-1) l).2+bk (eM kind p.states.length (-1) l).1 a (ak p q sch)):
  bk (tp kind) a (ak p q sch)=l.n*a ⟨0,0,0⟩+l.t*a ⟨1,0,0⟩+l.f*a ⟨2,0,0⟩:=by
 unfold eM at h1 h2
 dsimp only at h1 h2
 have hz:bk zC a (ak p q sch)=0:=dN (c:=zC) fun v _=>rfl
 rw[bj,bj,hz,LG h hk,zp,hl] at h1 h2
 omega
theorem kv (h:aP p q=0) (hs:∀r∈fg p q sch number,0<=r.2+bk r.1 a (ak p q sch)):
  bk (tp 3) a (ak p q sch)=a ⟨0,0,0⟩-a ⟨2,0,0⟩/\(jC p->bk (tp 4) a (ak p q sch)=a ⟨2,0,0⟩):=by
 have hm:∀r∈jE p,r∈fg p q sch number:=fun r hr=>by
  unfold fg
  exact List.mem_append_left _ (List.mem_append_left _ (List.mem_append_right _ hr))
 constructor
 ·have h1:=hs _ (hm (eM 3 p.states.length 1 ⟨0,1,0,-1⟩) (by unfold jE;exact List.mem_append_left _ (by simp)))
  have h2:=hs _ (hm (eM 3 p.states.length (-1) ⟨0,1,0,-1⟩) (by unfold jE;exact List.mem_append_left _ (by simp)))
  have:=AX h (.inl rfl) rfl h1 h2
  dsimp only at this
  omega
 ·intro hw
  have h1:=hs _ (hm (eM 4 p.states.length 1 ⟨0,0,0,1⟩) (by unfold jE;rw[if_pos hw];exact List.mem_append_right _ (by simp)))
  have h2:=hs _ (hm (eM 4 p.states.length (-1) ⟨0,0,0,1⟩) (by unfold jE;rw[if_pos hw];exact List.mem_append_right _ (by simp)))
  have:=AX h (.inr rfl) rfl h1 h2
  dsimp only at this
  omega
theorem F9 (h:aP p q=0) (ht:dZ p) (hr:∀j,j<p.rules.length->0<=(p.rules.getD j ap).src/\(p.rules.getD j ap).src<p.states.length) (ha:∀v∈ak p q sch,0<=a v)
  (hs:∀r∈fg p q sch number,0<=r.2+bk r.1 a (ak p q sch)) {j r:Nat}:
  ((⟨5,j,r⟩:Vb)∈ak p q sch->a ⟨5,j,r⟩<=a ⟨0,0,0⟩-a ⟨2,0,0⟩)/\((⟨6,j,r⟩:Vb)∈ak p q sch->a ⟨6,j,r⟩<=a ⟨2,0,0⟩):=by
 have hz:bk zC a (ak p q sch)=0:=dN (c:=zC) fun v _=>rfl
 have hk:∀v∈ak p q sch,Ih p sch v:=fun v hv=>iB h hv
 have hm:∀r∈ko p sch sch.length,r∈fg p q sch number:=fun r hr=>by
  unfold fg
  exact List.mem_append_left _ (List.mem_append_right _ (List.mem_flatMap.2 ⟨sch.length,List.mem_range.2 (by omega),hr⟩))
 have hst:=kv h hs
 have key:∀v∈ak p q sch,v.kind=5\/v.kind=6->(v.seg<=sch.length/\0<=v.idx/\v.idx<p.rules.length)/\(v.kind=6->jC p):=fun v hv e=>by
  have:=hk v hv
  unfold Ih at this
  rcases this with (e2|e2|e2)|this|this
  ·subst e2;dsimp only at e;omega
  ·subst e2;dsimp only at e;omega
  ·subst e2;dsimp only at e;omega
  ·omega
  ·refine⟨by omega,fun e6=>?_⟩
   rcases this.1 with e5|⟨_,hw⟩
   ·omega
   ·exact hw
 constructor
 ·intro hv
  have hb:=(key _ hv (.inl rfl)).1
  dsimp only at hb
  rw[<-hst.1]
  refine F8 ht (.inl ⟨rfl,rfl⟩) hk ha hr (seg:=sch.length) (fun x hx=>?_) (by omega) (by omega) hv
  have:=hs _ (hm (nD p 3 5 x sch.length) (by
   unfold ko
   exact List.mem_append_left _ (List.mem_append_right _ (List.mem_map.2 ⟨x,List.mem_range.2 hx,rfl⟩))))
  unfold nD at this
  dsimp only at this
  rw[bj,hz] at this
  omega
 ·intro hv
  obtain⟨hb,hw⟩:=key _ hv (.inr rfl)
  have hw:=hw rfl
  dsimp only at hb
  rw[<-hst.2 hw]
  refine F8 ht (.inr ⟨rfl,rfl⟩) hk ha hr (seg:=sch.length) (fun x hx=>?_) (by omega) (by omega) hv
  have:=hs _ (hm (nD p 4 6 x sch.length) (by
   unfold ko
   rw[if_pos hw]
   exact List.mem_append_right _ (List.mem_map.2 ⟨x,List.mem_range.2 hx,rfl⟩)))
  unfold nD at this
  dsimp only at this
  rw[bj,hz] at this
  omega
end
end Go.Proofs.YtekmminpfhacpaaGreatDoor
namespace Go.Proofs.YtekmminpfhacpaaGreatDoor
set_option maxRecDepth 100000
set_option maxHeartbeats 4000000
def gq (a:Co) (kind:Int) (l:List Int):List Int:=l.flatMap fun x=>List.replicate (a ⟨kind,0,x⟩).toNat x
noncomputable def bq (p:an) (q:aG) (a:Co):az:=
 ⟨[],gq a 3 (bw p q)++(if jC p then gq a 4 p.initial else[]),a ⟨0,0,0⟩-a ⟨2,0,0⟩,List.replicate p.messages.length 0,List.replicate p.messages.length 0,0⟩
def ew (a:Co):aJ:=⟨a ⟨0,0,0⟩,a ⟨1,0,0⟩,a ⟨2,0,0⟩⟩
theorem qj {a:Co} {kind:Int} {l:List Int} {x:Int} (h:x∈gq a kind l):x∈l:=by
 unfold gq at h
 obtain⟨y,hy,hx⟩:=List.mem_flatMap.1 h
 rw[(List.mem_replicate.1 hx).2]
 exact hy
theorem vj {a:Co} {kind:Int} {l:List Int} (ha:∀x∈l,0<=a ⟨kind,0,x⟩):((gq a kind l).length:Int)=bk (tp kind) a (l.map fun x=>⟨kind,0,x⟩):=by
 induction l with
 |nil=>simp[gq,bk]
 |cons x l ih=>
  have h1:=ih fun y hy=>ha y (List.mem_cons_of_mem _ hy)
  have h2:=ha x List.mem_cons_self
  have e:tp kind ⟨kind,0,x⟩=1:=by simp[tp]
  unfold gq at h1⊢
  rw[List.flatMap_cons,List.length_append,List.length_replicate,List.map_cons,bk,<-h1,e]
  omega
theorem nX {kind:Int} {v:Vb} (h:v.kind≠kind):tp kind v=0:=by simp[tp,h]
theorem F' {p:an} {q:aG} {sch:List Int} {a:Co}:bk (tp 3) a (ak p q sch)=bk (tp 3) a ((bw p q).map fun x=>⟨3,0,x⟩)/\(jC p->bk (tp 4) a (ak p q sch)=bk (tp 4) a (p.initial.map fun x=>⟨4,0,x⟩)):=by
 have hh:∀kind:Int,kind=3\/kind=4->bk (tp kind) a (ak p q sch)=bk (tp kind) a (pP p q):=fun kind hk=>by
  unfold ak
  rw[ja,ja,dN (l:=[⟨0,0,0⟩,⟨1,0,0⟩,⟨2,0,0⟩]) (fun v hv=>nX (by
   simp only[List.mem_cons,List.not_mem_nil,or_false] at hv
   rcases hv with rfl|rfl|rfl<;>(dsimp only;omega))),dN (l:=(List.range (sch.length+1)).flatMap fun j=>bN p sch j p.rules.length) (fun v hv=>nX (by
   obtain⟨j,_,hv⟩:=List.mem_flatMap.1 hv
   obtain⟨r,_,hv⟩:=dp hv
   have:=(d4 hv).1
   omega))]
  omega
 constructor
 ·rw[hh 3 (.inl rfl)]
  unfold pP
  rw[ja]
  split
  ·rw[dN (l:=p.initial.map fun x=>⟨4,0,x⟩) (fun v hv=>nX (by obtain⟨x,_,rfl⟩:=List.mem_map.1 hv;dsimp only;omega))]
   omega
  ·simp[bk]
 ·intro hw
  rw[hh 4 (.inr rfl)]
  unfold pP
  rw[if_pos hw,ja,dN (l:=(bw p q).map fun x=>⟨3,0,x⟩) (fun v hv=>nX (by obtain⟨x,_,rfl⟩:=List.mem_map.1 hv;dsimp only;omega))]
  omega
theorem pi {p:an} {q:aG} {sch:List Int} {number:Int} {a:Co} (hs:∀r∈fg p q sch number,0<=r.2+bk r.1 a (ak p q sch)) {l:kG} (hl:l∈iT p):0<=fX l (ew a):=by
 have h:=hs (o0 l) (by
  unfold fg
  exact List.mem_append_left _ (List.mem_append_left _ (List.mem_append_left _ (List.mem_map.2 ⟨l,hl,rfl⟩))))
 unfold o0 at h
 dsimp only at h
 rw[zp] at h
 unfold fX ew
 dsimp only
 omega
theorem LH {p:an} {q:aG} {sch:List Int} {number:Int} {a:Co} (hp:aP p q=0) (ht:dZ p) (ha:∀v∈ak p q sch,0<=a v)
  (hs:∀r∈fg p q sch number,0<=r.2+bk r.1 a (ak p q sch)) (hn:a ⟨0,0,0⟩<=8):dx p (ew a) (bq p q a):=by
 have hv:=(aF hp).vld
 have hin:=(aL hv).ini
 have h0:(⟨0,0,0⟩:Vb)∈ak p q sch:=by unfold ak;simp
 have h1:(⟨1,0,0⟩:Vb)∈ak p q sch:=by unfold ak;simp
 have h2:(⟨2,0,0⟩:Vb)∈ak p q sch:=by unfold ak;simp
 have a0:=ha _ h0
 have a1:=ha _ h1
 have a2:=ha _ h2
 have e1:=pi hs (l:=⟨-1,1,0,0⟩) (by unfold iT;simp)
 have e2:=pi hs (l:=⟨0,1,-1,0⟩) (by unfold iT;simp)
 have e3:=pi hs (l:=⟨0,1,0,-1⟩) (by unfold iT;simp)
 have e4:p.fault=0->0<=fX ⟨0,0,-1,0⟩ (ew a)/\0<=fX ⟨0,0,0,-1⟩ (ew a):=fun hf=>⟨pi hs (by unfold iT;rw[if_pos hf];simp),pi hs (by unfold iT;rw[if_pos hf];simp)⟩
 have e5:∀l∈p.resilience,0<=fX l (ew a):=fun l hl=>pi hs (by unfold iT;exact List.mem_append_right _ hl)
 unfold fX ew at e1 e2 e3 e4
 dsimp only at e1 e2 e3 e4
 have hst:=kv hp hs
 have hev:=F' (p:=p) (q:=q) (sch:=sch) (a:=a)
 have l3:=vj (a:=a) (kind:=3) (l:=bw p q) fun x hx=>ha _ (by
  unfold ak pP
  exact List.mem_append_left _ (List.mem_append_right _ (List.mem_append_left _ (List.mem_map.2 ⟨x,hx,rfl⟩))))
 have l4:jC p->((gq a 4 p.initial).length:Int)=a ⟨2,0,0⟩:=fun hw=>by
  rw[vj (a:=a) (kind:=4) (l:=p.initial) fun x hx=>ha _ (by
   unfold ak pP
   rw[if_pos hw]
   exact List.mem_append_left _ (List.mem_append_right _ (List.mem_append_right _ (List.mem_map.2 ⟨x,hx,rfl⟩)))),<-hev.2 hw,hst.2 hw]
 rw[<-hev.1,hst.1] at l3
 have hle:=bL (eW hv)
 have hlen:((bq p q a).states.length:Int)=gk p (ew a):=by
  show(((gq a 3 (bw p q)++(if jC p then gq a 4 p.initial else[])).length:Nat):Int)=_
  rw[List.length_append]
  unfold gk ew
  dsimp only
  by_cases hw:jC p
  ·have:=l4 hw
   rw[if_pos hw,if_neg (by unfold jC at hw;omega)]
   omega
  ·rw[if_neg hw,List.length_nil]
   unfold jC at hw
   have hf:=(aL hv).top
   by_cases h3:p.fault=3
   ·rw[if_pos h3];omega
   ·rw[if_neg h3]
    have:=e4 (by omega)
    omega
 have hz:(ew a).n<=8:=hn
 have hm8:gk p (ew a)<=8:=by unfold gk ew;dsimp only;split<;>omega
 refine⟨eW hv,?_,hv,?_,?_,⟨?_,?_,?_,?_⟩,⟨hlen,?_,rfl,?_,?_,?_,?_,Int.le_refl _, .inl Int.one_pos,?_,?_⟩⟩
 ·unfold bA
  simp only[Bool.or_eq_false_iff,decide_eq_false_iff_not]
  have:(bq p q a).shape.length=0:=rfl
  have:(bq p q a).sent.length=p.messages.length:=List.length_replicate
  have:(bq p q a).faulty.length=p.messages.length:=List.length_replicate
  omega
 ·unfold JI ew;dsimp only;omega
 ·unfold ew;dsimp only;omega
 ·unfold rg ew;dsimp only;omega
 ·unfold w7 ew
  rintro⟨h,h3⟩
  have:=e4 h
  dsimp only at h3
  omega
 ·unfold Ce
  rintro⟨h,_⟩
  have:=ht.1
  omega
 ·intro j hj
  exact e5 _ (aB fQ hj)
 ·intro j hj
  have hm:=aB 0 hj
  have hm:(bq p q a).states.getD j 0∈gq a 3 (bw p q)++(if jC p then gq a 4 p.initial else[]):=hm
  rcases List.mem_append.1 hm with h|h
  ·exact JN hp _ (qj h)
  ·split at h
   ·exact rz hin.1 _ (qj h)
   ·simp at h
 ·exact List.length_replicate
 ·intro j hj
  have hj:j<p.messages.length:=by simpa[bq] using hj
  show 0<=(List.replicate p.messages.length (0:Int)).getD j 0/\(List.replicate p.messages.length (0:Int)).getD j 0<1048577
  rw[gD,List.getElem?_replicate,if_pos hj]
  decide
 ·exact List.length_replicate
 ·intro j hj
  have hj:j<p.messages.length:=by simpa[bq] using hj
  show 0<=(List.replicate p.messages.length (0:Int)).getD j 0/\(List.replicate p.messages.length (0:Int)).getD j 0<yM p+1
  rw[gD,List.getElem?_replicate,if_pos hj,Option.getD_some]
  unfold yM
  split<;>omega
 ·intro h
  have:=ht.1
  omega
 ·intro _
  rfl
def mi (l:List Int) (x:Int):Nat->Nat->Nat
 |0,_=>0
 |n+1,i=>(if l.getD i 0=x then 1 else 0)+mi l x n (i+1)
theorem Ga {l:List Int} {x:Int}:∀{n i:Nat},0<mi l x n i->∃k:Nat,lE l x n i=k/\i<=k/\k<i+n/\l.getD k 0=x
 |0,i,h=>by simp[mi] at h
 |n+1,i,h=>by
  unfold lE
  by_cases e:l.getD i 0=x
  ·rw[if_pos e];exact⟨i,rfl,Nat.le_refl _,by omega,e⟩
  ·rw[if_neg e]
   unfold mi at h
   rw[if_neg e,Nat.zero_add] at h
   obtain⟨k,h1,h2,h3,h4⟩:=Ga h
   exact⟨k,h1,by omega,by omega,h4⟩
theorem JV {l:List Int} {x:Int}:∀{n i:Nat},mi l x n i=0->lE l x n i=-1
 |0,i,h=>rfl
 |n+1,i,h=>by
  unfold mi at h
  unfold lE
  by_cases e:l.getD i 0=x
  ·rw[if_pos e] at h;omega
  ·rw[if_neg e] at h⊢
   exact JV (by omega)
theorem getD_set_ne {l:List Int} {k j:Nat} (d:Int) (h:k≠j):(l.set k d).getD j 0=l.getD j 0:=by
 rw[gD,gD,List.getElem?_set_ne h]
theorem lF {l:List Int} {k:Nat} (d:Int) (h:k<l.length):(l.set k d).getD k 0=d:=by
 rw[gD,List.getElem?_set_self h,Option.getD_some]
theorem qk {l:List Int} {k:Nat} (d y:Int):∀{n i:Nat},(k<i\/i+n<=k)->mi (l.set k d) y n i=mi l y n i
 |0,i,h=>rfl
 |n+1,i,h=>by
  unfold mi
  rw[getD_set_ne d (by omega),qk d y (n:=n) (i:=i+1) (by omega)]
theorem zq {l:List Int} {k:Nat} (hl:k<l.length) (d y:Int):∀{n i:Nat},i<=k->k<i+n->mi (l.set k d) y n i+(if l.getD k 0=y then 1 else 0)=mi l y n i+(if d=y then 1 else 0)
 |0,i,h1,h2=>by omega
 |n+1,i,h1,h2=>by
  unfold mi
  by_cases e:i=k
  ·subst e
   rw[lF d hl,qk d y (by omega)]
   omega
  ·rw[getD_set_ne d (Ne.symm e)]
   have:=zq hl d y (n:=n) (i:=i+1) (by omega) (by omega)
   omega
theorem mN {p:an} {s:aJ} {c:az} (h:dx p s c):cr p s=0:=by
 have:=h.sz
 unfold cr
 rw[if_neg (fun y=>y h.val),if_neg (fun y=>y h.adm),if_neg (by omega)]
theorem zr {p:an} {s:aJ} {c:az} (h:dx p s c):cF p s c=0:=by
 unfold cF
 rw[if_neg (fun y=>y (mN h)),pB,if_pos h.vc]
theorem IW {p:an} {s:aJ} {c:az} (h:dx p s c) (ht:dZ p) {ri i:Int} (hr:0<=ri/\ri<p.rules.length) (hi:0<=i/\i<c.states.length)
  (hs:c.states.getD i.toNat 0=(p.rules.getD ri.toNat ap).src) (hg:nw p s c (p.rules.getD ri.toNat ap) false) (hb:nV c (p.rules.getD ri.toNat ap) ⟨ri,i,-1⟩):jI p s c ⟨ri,i,-1⟩=0:=by
 have hR:=cQ h.val (i:=ri.toNat) (by omega)
 have hrd:=hR.read
 have hv:=ht.2.1
 obtain⟨k1,k2,k3,k4⟩:=ht.2.2 ri.toNat (by omega)
 have he:mL p s c ⟨ri,i,-1⟩ false:=by
  refine⟨⟨hr,hi⟩,hs, .inl ?_,?_⟩
  ·show(p.rules.getD ri.toNat ap).read=-1
   omega
  ·show uE p s c (p.rules.getD ri.toNat ap) ⟨ri,i,-1⟩ false
   unfold uE
   rw[if_neg (by omega),if_pos k1]
   exact⟨rfl,hg, .inl k3, .inl k4⟩
 unfold jI
 rw[if_neg (fun y=>y (zr h)),if_neg (fun y=>y he),if_neg (fun y=>y hb)]
theorem nY:∀(ms l:List Int) (j:Nat),ms.Nodup->(∀m∈ms,0<=m/\m<l.length)->(bP l ms).getD j 0=l.getD j 0+if(j:Int)∈ms then 1 else 0
 |[],l,j,_,_=>by simp[bP]
 |m::ms,l,j,hn,h=>by
  obtain⟨hm,hn⟩:=List.nodup_cons.1 hn
  have h0:=h m List.mem_cons_self
  rw[bP,nY ms _ j hn (fun x hx=>by rw[List.length_set];exact h x (List.mem_cons_of_mem _ hx))]
  by_cases e:m.toNat=j
  ·subst e
   have e2:((m.toNat:Nat):Int)=m:=Int.toNat_of_nonneg h0.1
   rw[lF _ (by omega),e2,if_neg hm,if_pos List.mem_cons_self]
   omega
  ·rw[getD_set_ne _ e]
   have e2:(j:Int)≠m:=fun h2=>e (by omega)
   simp[e2]
theorem Gb {l ms:List Int} (hl:∀j,0<=l.getD j 0/\l.getD j 0<=1000000) (hm:ms.length<=60):IQ l ms:=by
 intro k hk
 have:=qh (ms.take (k+1)) l 1000000 hl (ms.getD k 0).toNat
 have:(ms.take (k+1)).length<=60:=by rw[List.length_take];omega
 omega
def zt (K:Nat):Bool->Nat
 |false=>0
 |true=>K
def CK (K L:Nat):Bool->Nat
 |false=>K
 |true=>L
def AY (l:List Int) (K L:Nat) (f:Bool) (y:Int):Nat:=mi l y (CK K L f-zt K f) (zt K f)
theorem l9 {c:az} {r:bo} {x:bH} (hk:r.kind=1) (hi:0<=x.process/\x.process<c.states.length):(eD c r x).states=c.states.set x.process.toNat r.dst:=
 (FW (by simp) fun j hj=>by
  rw[cL]
  unfold LB
  by_cases e:x.process.toNat=j
  ·rw[if_pos ⟨e,by omega⟩,if_pos (by omega)]
  ·rw[if_neg (fun h=>e h.1),if_neg (by omega),if_neg (by omega),if_neg (by omega)]).symm
theorem Gc {l:List Int} {K L:Nat} {f:Bool} {k:Nat} (d y:Int) (hL:L=l.length) (hK:K<=L) (h1:zt K f<=k) (h2:k<CK K L f):
  AY (l.set k d) K L f y+(if l.getD k 0=y then 1 else 0)=AY l K L f y+(if d=y then 1 else 0)/\AY (l.set k d) K L (!f) y=AY l K L (!f) y:=by
 unfold AY
 cases f
 ·simp only[zt,CK,Bool.not_false] at*
  exact⟨zq (by omega) d y (by omega) (by omega),qk d y (by omega)⟩
 ·simp only[zt,CK,Bool.not_true] at*
  exact⟨zq (by omega) d y (by omega) (by omega),qk d y (by omega)⟩
theorem Gd {p:an} {s:aJ} {c:az} {r r':bo} {x:bH} (hc:∀g∈r.guards,1<=g.coef) (h:nw p s c r false):nw p s (eD c r' x) r false:=by
 intro j hj
 have h1:=h j hj
 have h2:=hc _ (aB aC hj)
 unfold nv at h1⊢
 exact Int.le_trans h1 (Int.mul_le_mul_of_nonneg_left (xv p s c r' x _) (by omega))
structure LI (p:an) (s:aJ) (r:bo) (f:Bool) (n:Nat) (c d:az):Prop where
 rdy:dx p s d
 cor:d.correct=c.correct
 len:d.states.length=c.states.length
 occ:∀y,AY d.states c.correct.toNat c.states.length f y+(if r.src=y then n else 0)=AY c.states c.correct.toNat c.states.length f y+(if r.dst=y then n else 0)
 oth:∀y,AY d.states c.correct.toNat c.states.length (!f) y=AY c.states c.correct.toNat c.states.length (!f) y
 sen:∀j:Nat,d.sent.getD j 0=c.sent.getD j 0+if f=false/\(j:Int)∈r.send then(n:Int) else 0
 fau:∀j:Nat,d.faulty.getD j 0=c.faulty.getD j 0+if f=true/\(j:Int)∈r.send then(n:Int) else 0
theorem xy {p:an} {s:aJ} (ht:dZ p) {ri:Int} (hr:0<=ri/\ri<p.rules.length) (hsd:(p.rules.getD ri.toNat ap).send.Nodup) (hgc:∀g∈(p.rules.getD ri.toNat ap).guards,1<=g.coef) (f:Bool):
  ∀(n:Nat) (c:az) (xs:List bH),dx p s c->0<=c.correct->c.correct.toNat<=c.states.length->n<=AY c.states c.correct.toNat c.states.length f (bU p ri)->nw p s c (p.rules.getD ri.toNat ap) false->
  (∀j,0<=c.sent.getD j 0/\c.sent.getD j 0+n<=1000000)->(∀j,0<=c.faulty.getD j 0/\c.faulty.getD j 0+n<=1000000)->
  ∃d ys,dq p s ri (zt c.correct.toNat f) (CK c.correct.toNat c.states.length f) n c xs=(d,xs++ys,0)/\ys.length=n/\LI p s (p.rules.getD ri.toNat ap) f n c d
 |0,c,xs,h,_,_,_,_,_,_=>⟨c,[],by rw[List.append_nil];rfl,rfl,⟨h,rfl,rfl,fun y=>by simp,fun y=>rfl,fun j=>by simp,fun j=>by simp⟩⟩
 |n+1,c,xs,h,hc0,hK,hn,hg,hs1,hs2=>by
  obtain⟨k,hk,k1,k2,k3⟩:=Ga (l:=c.states) (x:=bU p ri) (n:=CK c.correct.toNat c.states.length f-zt c.correct.toNat f) (i:=zt c.correct.toNat f) (by unfold AY at hn;omega)
  have hhi:CK c.correct.toNat c.states.length f<=c.states.length:=by cases f<;>simp only[CK]<;>omega
  have hlo:zt c.correct.toNat f<=CK c.correct.toNat c.states.length f:=by cases f<;>simp only[CK,zt]<;>omega
  have hkl:k<c.states.length:=by omega
  have hR:=cQ h.val (i:=ri.toNat) (by omega)
  have hB:=i6 (ii h.big (j:=ri.toNat) (by omega))
  have hse:=hR.send
  have hri:=ht.2.2 ri.toNat (by omega)
  have hsn:=h.vc.snl
  have hfa:=h.vc.fal
  obtain⟨r,er⟩:∃r,r=p.rules.getD ri.toNat ap:=⟨_,rfl⟩
  have hin:∀(l:List Int),l.length=p.messages.length->∀m∈r.send,0<=m/\m<l.length:=fun l hl m hm=>by
   rw[er] at hm
   obtain⟨i,hi,e⟩:=List.getElem_of_mem hm
   have:=hse i hi
   rw[av 0 hi,e] at this
   omega
  have hap:nV c (p.rules.getD ri.toNat ap) ⟨ri,k,-1⟩:=by
   unfold nV
   split
   ·exact Gb (fun j=>⟨(hs1 j).1,by have:=(hs1 j).2;omega⟩) (by omega)
   ·exact Gb (fun j=>⟨(hs2 j).1,by have:=(hs2 j).2;omega⟩) (by omega)
  have e0:jI p s c ⟨ri,k,-1⟩=0:=IW h ht hr ⟨by omega,by omega⟩ (by rw[tN];exact k3) hg hap
  have hrd:=qi h e0
  have est:(eD c (p.rules.getD ri.toNat ap) ⟨ri,k,-1⟩).states=c.states.set k r.dst:=by
   have:=l9 (c:=c) (r:=p.rules.getD ri.toNat ap) (x:=⟨ri,k,-1⟩) hri.1 ⟨by dsimp only;omega,by dsimp only;omega⟩
   rw[this,er]
   dsimp only
   rw[tN]
  have elen:(eD c (p.rules.getD ri.toNat ap) ⟨ri,k,-1⟩).states.length=c.states.length:=hZ _ _ _
  have ecor:(eD c (p.rules.getD ri.toNat ap) ⟨ri,k,-1⟩).correct=c.correct:=rfl
  have esen:∀j:Nat,(eD c (p.rules.getD ri.toNat ap) ⟨ri,k,-1⟩).sent.getD j 0=c.sent.getD j 0+if f=false/\(j:Int)∈r.send then 1 else 0:=fun j=>by
   show(if(k:Int)<c.correct then bP c.sent (p.rules.getD ri.toNat ap).send else c.sent).getD j 0=_
   rw[er]
   cases f
   ·simp only[CK] at k2 hlo hhi
    simp only[zt] at k2 k1
    rw[if_pos (by omega),nY _ _ j hsd (by rw[<-er];exact hin _ hsn)]
    simp
   ·simp only[zt] at k1
    rw[if_neg (by omega)]
    simp
  have efau:∀j:Nat,(eD c (p.rules.getD ri.toNat ap) ⟨ri,k,-1⟩).faulty.getD j 0=c.faulty.getD j 0+if f=true/\(j:Int)∈r.send then 1 else 0:=fun j=>by
   show(if(k:Int)<c.correct then c.faulty else bP c.faulty (p.rules.getD ri.toNat ap).send).getD j 0=_
   rw[er]
   cases f
   ·simp only[CK] at k2 hlo hhi
    simp only[zt] at k2 k1
    rw[if_pos (by omega)]
    simp
   ·simp only[zt] at k1
    rw[if_neg (by omega),nY _ _ j hsd (by rw[<-er];exact hin _ hfa)]
    simp
  have hmv:=fun y=>Gc (l:=c.states) (K:=c.correct.toNat) (L:=c.states.length) (f:=f) (k:=k) r.dst y rfl hK k1 (by omega)
  have hg1:=Gd (p:=p) (s:=s) (c:=c) (r':=p.rules.getD ri.toNat ap) (x:=⟨ri,k,-1⟩) hgc hg
  have hk3:c.states.getD k 0=r.src:=by rw[er];exact k3
  have hsrc:bU p ri=r.src:=by rw[er];rfl
  rw[<-er] at hri
  obtain⟨d,ys,h1,h2,h3⟩:=xy ht hr hsd hgc f n _ (xs++[⟨ri,k,-1⟩]) hrd hc0 (by rw[elen];exact hK) (by
   rw[elen,est,ecor,hsrc]
   have:=(hmv r.src).1
   rw[hk3,if_pos rfl,if_neg (by have:=hri.2.1;omega)] at this
   rw[hsrc] at hn
   omega) hg1 (fun j=>by rw[esen];have:=hs1 j;split<;>omega) (fun j=>by rw[efau];have:=hs2 j;split<;>omega)
  rw[elen,ecor] at h1
  refine⟨d,⟨ri,k,-1⟩::ys,?_,by rw[List.length_cons,h2],⟨h3.rdy,h3.cor,h3.len.trans elen,fun y=>?_,fun y=>?_,fun j=>?_,fun j=>?_⟩⟩
  ·unfold dq
   rw[hk,if_neg (by omega),if_neg (fun y=>y e0),h1,List.append_assoc]
   rfl
  ·have a:=h3.occ y
   have b:=(hmv y).1
   rw[elen,est,ecor,<-er] at a
   rw[hk3] at b
   rw[<-er]
   (repeat' split at a)<;>(repeat' split at b)<;>(repeat' split)<;>omega
  ·have a:=h3.oth y
   rw[elen,est,ecor] at a
   rw[a,(hmv y).2]
  ·have a:=h3.sen j
   rw[esen,<-er] at a
   rw[a,<-er]
   (repeat' split)<;>omega
  ·have a:=h3.fau j
   rw[efau,<-er] at a
   rw[a,<-er]
   (repeat' split)<;>omega
noncomputable def gY (vars:List Vb) (x:List Int) (kind seg idx:Int):Int:=
 match kK vars kind vars.length (seg,idx) with
 |some m=>x.getD m.toNat 0
 |none=>0
theorem rZ {vars:List Vb} {x:List Int} {kind seg idx m:Int} (h:kK vars kind vars.length (seg,idx)=some m):gY vars x kind seg idx=x.getD m.toNat 0:=by
 unfold gY;rw[h]
theorem r4 {vars:List Vb} {x:List Int} {kind seg idx:Int} (h:kK vars kind vars.length (seg,idx)=none):gY vars x kind seg idx=0:=by
 unfold gY;rw[h]
theorem pH {vars:List Vb} (hn:vars.Nodup) (x:List Int) {m:Nat} (hm:m<vars.length):iC vars x (vars.getD m dU)=x.getD m 0:=by
 unfold iC
 rw[av dU hm,hn.idxOf_getElem m hm]
theorem kw {vars:List Vb} (hn:vars.Nodup) (x:List Int) (kind seg idx:Int):gY vars x kind seg idx=if(⟨kind,seg,idx⟩:Vb)∈vars then iC vars x ⟨kind,seg,idx⟩ else 0:=by
 cases h:kK vars kind vars.length (seg,idx) with
 |none=>rw[r4 h,if_neg (oY h)]
 |some m=>
  obtain⟨k,rfl,hk,e⟩:=iA h
  rw[rZ h,<-e,if_pos (aB dU hk),pH hn x hk,tN]
noncomputable def nZ (vars:List Vb) (x:List Int) (kind:Int) (n:Nat):List Int:=(List.range n).flatMap fun y:Nat=>List.replicate (gY vars x kind 0 y).toNat (y:Int)
theorem Ge (vars:List Vb) (x:List Int) (kind:Int) (n:Nat):nZ vars x kind (n+1)=nZ vars x kind n++List.replicate (gY vars x kind 0 n).toNat (n:Int):=by
 unfold nZ
 rw[List.range_succ,List.flatMap_append]
 simp
theorem LJ {l:List Int} (h:l.Pairwise (·<·)) (n:Nat):l.filter (fun y=>decide (y<((n+1:Nat):Int)))=l.filter (fun y=>decide (y<(n:Int)))++if(n:Int)∈l then[(n:Int)] else[]:=by
 induction l with
 |nil=>simp
 |cons y l ih=>
  obtain⟨h1,h2⟩:=List.pairwise_cons.1 h
  have ih:=ih h2
  rcases Int.lt_trichotomy y (n:Int) with e|e|e
  ·rw[List.filter_cons_of_pos (by simp;omega),List.filter_cons_of_pos (by simp;omega),ih,List.cons_append]
   have:((n:Int)∈y::l)↔(n:Int)∈l:=by
    rw[List.mem_cons]
    exact⟨fun h=>h.resolve_left (by omega), .inr⟩
   simp only[this]
  ·subst e
   have hno:∀m:Int,m<=(n:Int)+1->l.filter (fun y=>decide (y<m))=[]:=fun m hm=>by
    rw[List.filter_eq_nil_iff]
    intro z hz
    have:=h1 z hz
    simp only[decide_eq_true_eq]
    omega
   rw[List.filter_cons_of_pos (by simp;omega),List.filter_cons_of_neg (by simp),hno _ (by omega),hno _ (by omega),if_pos List.mem_cons_self]
   rfl
  ·have hno:∀m:Int,m<=(n:Int)+1->(y::l).filter (fun y=>decide (y<m))=[]:=fun m hm=>by
    rw[List.filter_eq_nil_iff]
    intro z hz
    have:y<=z:=by
     rcases List.mem_cons.1 hz with rfl|hz
     ·exact Int.le_refl _
     ·have:=h1 z hz;omega
    simp only[decide_eq_true_eq]
    omega
   rw[hno _ (by omega),hno _ (by omega),if_neg,List.append_nil]
   intro hm
   rcases List.mem_cons.1 hm with e2|hm
   ·omega
   ·have:=h1 _ hm;omega
theorem pJ {l:List Int} (h:l.Pairwise (·<·)) (h0:∀y∈l,0<=y) (f:Int->List Int):∀n:Nat,(List.range n).flatMap (fun y:Nat=>if(y:Int)∈l then f y else[])=(l.filter fun y=>decide (y<(n:Int))).flatMap f
 |0=>by
  rw[(List.filter_eq_nil_iff).2 (fun y hy=>by have:=h0 y hy;simp only[decide_eq_true_eq];omega)]
  rfl
 |n+1=>by
  rw[List.range_succ,List.flatMap_append,pJ h h0 f n,LJ h,List.flatMap_append]
  congr 1
  by_cases e:(n:Int)∈l
  ·simp[e]
  ·simp[e]
theorem gr {l:List Int} {n:Int} (h:bC l n=0):l.Pairwise (·<·):=by
 obtain⟨_,h2⟩:=ny h
 have key:∀(k i:Nat),i<k->k<l.length->l.getD i 0<l.getD k 0:=by
  intro k
  induction k with
  |zero=>intro i hi;omega
  |succ k ih=>
   intro i hi hk
   have h1:=h2 (k+1) hk (by omega)
   rw[Nat.add_sub_cancel] at h1
   by_cases e:i=k
   ·subst e;exact h1
   ·have:=ih i (by omega) (by omega);omega
 rw[List.pairwise_iff_getElem]
 intro i j hi hj hij
 have:=key j i hij hj
 rwa [av 0 hi,av 0 hj] at this
theorem ma {p:an} {q:aG} {sch:List Int} {x:Int}:(⟨3,0,x⟩:Vb)∈ak p q sch↔x∈bw p q:=by
 unfold ak pP
 simp only[List.mem_append]
 constructor
 ·rintro((h|h|h)|h)
  ·simp only[List.mem_cons,List.not_mem_nil,or_false] at h
   rcases h with h|h|h<;>(have:=congrArg Vb.kind h;dsimp only at this;omega)
  ·obtain⟨y,hy,e⟩:=List.mem_map.1 h
   have:=congrArg Vb.idx e
   dsimp only at this
   subst this
   exact hy
  ·split at h
   ·obtain⟨y,hy,e⟩:=List.mem_map.1 h
    have:=congrArg Vb.kind e;dsimp only at this;omega
   ·cases h
  ·obtain⟨j,_,h⟩:=List.mem_flatMap.1 h
   obtain⟨r,_,h⟩:=dp h
   have:=(d4 h).1
   dsimp only at this;omega
 ·intro h
  exact .inl (.inr (.inl (List.mem_map.2 ⟨x,h,rfl⟩)))
theorem n5 {p:an} {q:aG} {sch:List Int} {x:Int}:(⟨4,0,x⟩:Vb)∈ak p q sch↔jC p/\x∈p.initial:=by
 unfold ak pP
 simp only[List.mem_append]
 constructor
 ·rintro((h|h|h)|h)
  ·simp only[List.mem_cons,List.not_mem_nil,or_false] at h
   rcases h with h|h|h<;>(have:=congrArg Vb.kind h;dsimp only at this;omega)
  ·obtain⟨y,hy,e⟩:=List.mem_map.1 h
   have:=congrArg Vb.kind e;dsimp only at this;omega
  ·split at h
   ·rename_i hw
    obtain⟨y,hy,e⟩:=List.mem_map.1 h
    have:=congrArg Vb.idx e
    dsimp only at this
    subst this
    exact⟨hw,hy⟩
   ·cases h
  ·obtain⟨j,_,h⟩:=List.mem_flatMap.1 h
   obtain⟨r,_,h⟩:=dp h
   have:=(d4 h).1
   dsimp only at this;omega
 ·rintro⟨hw,h⟩
  exact .inl (.inr (.inr (by rw[if_pos hw];exact List.mem_map.2 ⟨x,h,rfl⟩)))
theorem vn {l:List Int} {n:Int} (h:bC l n=0):∀y∈l,0<=y/\y<n:=fun y hy=>rz h y hy
theorem IX {p:an} {q:aG} (hp:aP p q=0) {sch:List Int} (x:List Int):
  nZ (ak p q sch) x 3 p.states.length++nZ (ak p q sch) x 4 p.states.length=(bq p q (iC (ak p q sch) x)).states:=by
 have hn:=bu hp sch
 have hv:=aL (aF hp).vld
 have hst:(bw p q).Pairwise (·<·)/\∀y∈bw p q,0<=y/\y<p.states.length:=by
  unfold bw
  split
  ·exact⟨gr (aF hp).start,vn (aF hp).start⟩
  ·exact⟨gr hv.ini.1,vn hv.ini.1⟩
 have hin:=gr hv.ini.1
 have hin2:=vn hv.ini.1
 have key:∀(l:List Int) (kind:Int),l.Pairwise (·<·)->(∀y∈l,0<=y/\y<p.states.length)->(∀y:Int,(⟨kind,0,y⟩:Vb)∈ak p q sch↔y∈l)->nZ (ak p q sch) x kind p.states.length=gq (iC (ak p q sch) x) kind l:=by
  intro l kind h1 h2 h3
  have e:∀y:Nat,List.replicate (gY (ak p q sch) x kind 0 y).toNat (y:Int)=if(y:Int)∈l then List.replicate (iC (ak p q sch) x ⟨kind,0,y⟩).toNat (y:Int) else[]:=fun y=>by
   rw[kw hn]
   by_cases hy:(y:Int)∈l
   ·rw[if_pos ((h3 y).2 hy),if_pos hy]
   ·rw[if_neg (fun h=>hy ((h3 y).1 h)),if_neg hy];rfl
  unfold nZ gq
  simp only[e]
  rw[pJ h1 (fun y hy=>(h2 y hy).1) (fun y=>List.replicate (iC (ak p q sch) x ⟨kind,0,y⟩).toNat y)]
  rw[List.filter_eq_self.2 (fun y hy=>by simpa using (h2 y hy).2)]
 have k3:=key (bw p q) 3 hst.1 hst.2 (fun y=>ma)
 show _=gq _ 3 (bw p q)++(if jC p then gq _ 4 p.initial else[])
 rw[k3]
 congr 1
 by_cases hw:jC p
 ·rw[if_pos hw]
  exact key p.initial 4 hin hin2 fun y=>n5.trans (and_iff_right hw)
 ·rw[if_neg hw]
  exact key [] 4 List.Pairwise.nil (fun y hy=>by cases hy) fun y=>n5.trans (by simp[hw])
def jJ (ord:List Int):Nat->Nat->List (Nat×Int)
 |0,_=>[]
 |n+1,j=>ord.map (fun r=>(j,r))++jJ ord n (j+1)
noncomputable def jK (p:an) (s:aJ) (t5 t6:Nat->Int->Int):List (Nat×Int)->az->List bH->az×List bH×Int
 |[],c,xs=>(c,xs,0)
 |y::L,c,xs=>if(fU p s c y.2 (t5 y.1 y.2).toNat (t6 y.1 y.2).toNat).2.2≠0 then(aU,[],(fU p s c y.2 (t5 y.1 y.2).toNat (t6 y.1 y.2).toNat).2.2)
  else jK p s t5 t6 L (fU p s c y.2 (t5 y.1 y.2).toNat (t6 y.1 y.2).toNat).1 (xs++(fU p s c y.2 (t5 y.1 y.2).toNat (t6 y.1 y.2).toNat).2.1)
theorem jL (p:an) (s:aJ) (t5 t6:Nat->Int->Int) (j:Nat) (r:Int) (L:List (Nat×Int)) (c:az) (xs:List bH):jK p s t5 t6 ((j,r)::L) c xs=if(fU p s c r (t5 j r).toNat (t6 j r).toNat).2.2≠0 then(aU,[],(fU p s c r (t5 j r).toNat (t6 j r).toNat).2.2)
  else jK p s t5 t6 L (fU p s c r (t5 j r).toNat (t6 j r).toNat).1 (xs++(fU p s c r (t5 j r).toNat (t6 j r).toNat).2.1):=rfl
theorem ql {p:an} {r:Int} (h:r∈hJ p.rules p.states.length):0<=r/\r<p.rules.length:=by
 unfold hJ at h
 obtain⟨x,_,h⟩:=List.mem_flatMap.1 h
 obtain⟨k,hk,rfl⟩:=List.mem_map.1 h
 have:=List.mem_range.1 (List.mem_filter.1 hk).1
 omega
theorem Gf {p:an} (hv:aA p=0):(hJ p.rules p.states.length).length<=48:=by
 have:=FA p.rules p.states.length
 rw[Fy] at this
 have w:=(aL hv).len
 have:p.rules.length*p.states.length<=8*6:=Nat.mul_le_mul w.2.2.2.2.2 w.2.1
 omega
section
variable (p:an) (q:aG) (sch:List Int) (x:List Int)
noncomputable abbrev xz:Nat->Int->Int:=fun j r=>gY (ak p q sch) x 5 j r
noncomputable abbrev xA:Nat->Int->Int:=fun j r=>gY (ak p q sch) x 6 j r
noncomputable def mj:az×List bH×Int:=jK p (ew (iC (ak p q sch) x)) (xz p q sch x) (xA p q sch x) (jJ (hJ p.rules p.states.length) (sch.length+1) 0) (bq p q (iC (ak p q sch) x)) []
noncomputable def pk (number:Int):Int:=
 if cb p q≠0 then cb p q else if¬da (ax p.rules).length sch\/number< -1\/(oX p q:Int)<=number then 1
 else if¬o8 (kq p q sch number) x then 1 else if 8<x.getD 0 0 then 4 else(mj p q sch x).2.2
noncomputable def xB (number:Int):AV:=
 if pk p q sch x number≠0 then .tup [.agg [.int .i64 0, .int .i64 0, .int .i64 0], .agg (jj++[.nilsl]), .int .i64 (pk p q sch x number)]
 else .tup [.agg (cq (ew (iC (ak p q sch) x))), .agg (aW (bq p q (iC (ak p q sch) x))++[.sl ph dG (mj p q sch x).2.1]), .int .i64 0]
end
structure LK (p:an) (q:aG) (sch:List Int) (x:List Int) (number:Int):Prop where
 prp:aP p q=0
 thr:dZ p
 scm:da (ax p.rules).length sch
 len:x.length=(ak p q sch).length
 rdy:dx p (ew (iC (ak p q sch) x)) (bq p q (iC (ak p q sch) x))
 siz:ew (iC (ak p q sch) x)=⟨x.getD 0 0,x.getD 1 0,x.getD 2 0⟩
 five:∀(j:Nat) (r:Int),r∈hJ p.rules p.states.length->0<=gY (ak p q sch) x 5 j r/\gY (ak p q sch) x 5 j r<=8
 six:∀(j:Nat) (r:Int),r∈hJ p.rules p.states.length->0<=gY (ak p q sch) x 6 j r/\gY (ak p q sch) x 6 j r<=8
 pnt:∀m,m<x.length->0<=x.getD m 0/\x.getD m 0<=1048576
theorem vo {p:an} {q:aG} {sch x:List Int} {number:Int} (h:o8 (kq p q sch number) x):x.length=(ak p q sch).length:=by
 have:=h.2.1
 unfold kq at this
 dsimp only at this
 omega
theorem Gg {p:an} {q:aG} {sch x:List Int} {number:Int} (hc:cb p q=0) (hs:da (ax p.rules).length sch) (h:o8 (kq p q sch number) x) (h8:¬8<x.getD 0 0):LK p q sch x number:=by
 have hp:=db hc
 have ht:=(qc hc).1
 have hn:=bu hp sch
 have hl:=vo h
 have hm:=Ff hn hl
 have hsat:=h
 rw[<-hm] at hsat
 obtain⟨h1,h2⟩:=(y5 hp hs).1 hsat
 have ha:∀v∈ak p q sch,0<=iC (ak p q sch) x v:=fun v hv=>(h1 v hv).1
 have hv3:3<=(ak p q sch).length:=by unfold ak;simp only[List.length_append,List.length_cons,List.length_nil];omega
 have e0:iC (ak p q sch) x ⟨0,0,0⟩=x.getD 0 0:=pH hn x (m:=0) (by omega)
 have e1:iC (ak p q sch) x ⟨1,0,0⟩=x.getD 1 0:=pH hn x (m:=1) (by omega)
 have e2:iC (ak p q sch) x ⟨2,0,0⟩=x.getD 2 0:=pH hn x (m:=2) (by omega)
 have hr:∀j,j<p.rules.length->0<=(p.rules.getD j ap).src/\(p.rules.getD j ap).src<p.states.length:=fun j hj=>by
  have:=qd (aF hp).vld j hj
  rwa [uU] at this
 have hf:=fun(j r:Nat)=>F9 hp ht hr ha h2 (j:=j) (r:=r)
 have hN:=ha ⟨0,0,0⟩ (by unfold ak;simp)
 have hF:=ha ⟨2,0,0⟩ (by unfold ak;simp)
 have rd:=LH hp ht ha h2 (by omega)
 have hfn:iC (ak p q sch) x ⟨2,0,0⟩<=iC (ak p q sch) x ⟨0,0,0⟩:=by
  have:=(kv hp h2).1
  have:=rd.sz
  unfold ew at this
  dsimp only at this
  omega
 refine⟨hp,ht,hs,hl,rd,by unfold ew;rw[e0,e1,e2],fun j r hr=>?_,fun j r hr=>?_,fun m hm=>?_⟩
 ·obtain⟨a,b⟩:=ql hr
  obtain⟨k,rfl⟩:∃k:Nat,r=k:=⟨r.toNat,by omega⟩
  rw[kw hn]
  by_cases e:(⟨5,j,k⟩:Vb)∈ak p q sch
  ·rw[if_pos e]
   have:=(hf j k).1 e
   have:=ha _ e
   omega
  ·rw[if_neg e];omega
 ·obtain⟨a,b⟩:=ql hr
  obtain⟨k,rfl⟩:∃k:Nat,r=k:=⟨r.toNat,by omega⟩
  rw[kw hn]
  by_cases e:(⟨6,j,k⟩:Vb)∈ak p q sch
  ·rw[if_pos e]
   have:=(hf j k).2 e
   have:=ha _ e
   omega
  ·rw[if_neg e];omega
 ·exact h.2.2.1 m hm
end Go.Proofs.YtekmminpfhacpaaGreatDoor
