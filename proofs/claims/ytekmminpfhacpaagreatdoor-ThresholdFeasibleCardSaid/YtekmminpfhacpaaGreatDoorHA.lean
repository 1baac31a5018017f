import Derived.Test.YtekmminpfhacpaaGreatDoorGA
import Derived.Test.YtekmminpfhacpaaGreatDoorY1
set_option linter.unusedVariables false
set_option linter.unusedSimpArgs false
namespace Go.Proofs.YtekmminpfhacpaaGreatDoor
section
set_option maxRecDepth 100000
set_option maxHeartbeats 16000000
theorem ab.nilA {f:FuncId} {R:AV->Prop} (h:∀b c,ab Tryz.prog f [.val (.slice b 0 c)] R):ab Tryz.prog f [.sl (0:Int) ak []] R:=by
 simp only[cZ] at*
 refine⟨(h none 0).1,fun S F vs w hG hS hF hd hv=>?_⟩
 obtain⟨v,vs',rfl,hr,hn⟩:=hv.cons_inv
 cases hr with
 |sl _ _ _ base cap sz vals hcap ho hsz hb hnn hvv=>exact(h base cap).2 S F _ w hG hS hF hd (ib.cons (.val _) hn)
theorem xA (l:List Int) (hl:l.length<=1000):ab Tryz.prog 39 [.sl 0 ak l] (fun u=>u= .sl 0 ak l):=by
 by_cases h0:l=[]
 ·subst h0
  refine ab.nilA fun b c=>?_
  cases b with
  |none=>
   refine ab.sub (R:=fun u=>u= .nilsl) ?_ (by rintro _ rfl;exact⟨_,rfl,aa,rfl⟩)
   refine ab.intro ae ag Tryz.func39 rfl (by decide) ?_;(conv=>whnf)
   conv=>whnf
   exact⟨rfl,rfl⟩
  |some ad=>
   refine ab.intro ae ag Tryz.func39 rfl (by decide) ?_;(conv=>whnf)
   conv=>whnf
   refine c7 0 ak [] rfl ?_
   conv=>whnf
   refine di [] rfl (by simp only[List.length_nil];omega) ?_
   conv=>whnf
   exact⟨rfl,rfl⟩
 ·exact ow l (List.length_pos_iff.2 h0) hl
theorem QL (c:aD) (hw:dA c=false):ab Tryz.prog 90 [.agg (cy c)] (fun u=>u= .agg (cy c)):=by
 have hc:=eY hw
 have h1:=xA c.shape (by omega)
 have h2:=xA c.states (by omega)
 have h3:=xA c.sent (by omega)
 have h4:=xA c.faulty (by omega)
 refine ab.intro ae ag Tryz.func90 rfl (by decide) ?_;(conv=>whnf)
 refine yl ?_
 conv=>whnf
 refine dI ?_
 conv=>whnf
 (refine oC (h1) ?_;conv=>whnf)
 (refine oC (h2) ?_;conv=>whnf)
 (refine oC (h3) ?_;conv=>whnf)
 (refine oC (h4) ?_;conv=>whnf)
 exact⟨rfl,rfl⟩
def mT (l:List Int) (st:Int):Nat->Nat->Int
 |0,_=>-1
 |n+1,i=>if l.getD i 0=st then(i:Int) else mT l st n (i+1)
theorem OQ (c:aD) (st:Int) (lo hi:Nat) (hh:hi<=c.states.length) (hb:hi<=1000000):ab Tryz.prog 252 [.agg (cy c), .int .i64 st, .int .i64 (lo:Int), .int .i64 (hi:Int)] (fun u=>u= .int .i64 (mT c.states st (hi-lo) lo)):=by
 refine ab.intro ae ag Tryz.func252 rfl (by decide) ?_;(conv=>whnf)
 refine ar rfl ?_
 conv=>whnf
 refine a8.loopF ae ag (fun i:Nat=>lo<=i/\mT c.states st (hi-lo) lo=mT c.states st (hi-i) i) (fun i=>[(9, .int .i64 (i:Int))]) (fun _=>[]) (fun i=>hi-i) lo ⟨Nat.le_refl _,rfl⟩ ?_;conv=>whnf
 refine⟨sI,?_⟩
 rintro i ⟨h1,h2⟩
 conv=>whnf
 refine ai ?_ ?_<;>(intro g1;conv=>whnf)
 ·have hil:i<hi:=by omega
  have e:hi-i=(hi-(i+1))+1:=by omega
  have e2:mT c.states st (hi-i) i=if c.states.getD i 0=st then(i:Int) else mT c.states st (hi-(i+1)) (i+1):=by rw[e];rfl
  refine nI ?_
  rw[tN]
  conv=>whnf
  refine ai ?_ ?_<;>(intro g2;conv=>whnf)
  ·exact⟨x6 (by rw[h2,e2,if_pos g2]),rfl⟩
  ·repeat' ((first|refine nI ?_|refine aI ?_|refine uI ?_|refine vI ?_|refine dI ?_|refine dR ?_|refine dP ?_|refine ar rfl ?_|refine pI _ rfl ?_|refine an _ rfl ?_|refine tI ?_|refine fI ?_|refine ai (fun _=>?_) (fun _=>?_))<;>conv=>whnf)
   exact⟨i+1,sI,⟨by omega,by rw[h2,e2,if_neg g2]⟩,by dsimp only;omega⟩
 ·exact⟨x6 (by rw[h2,show hi-i=0 by omega];rfl),rfl⟩
def qO:bX:=⟨0,0,0⟩
noncomputable def kG (p:ap) (s:aN) (c:aD) (x:bX):Int:=
 if du p s c≠0 then du p s c else if¬qc p s c x false then 9 else if¬qe c (cQ p x) x then 4 else 0
theorem xB {p:ap} {s:aN} {c:aD} {x:bX} (h:kG p s c x=0):E' p s c x= .tup [.agg (cy (fQ c (cQ p x) x)), .int .i64 0]/\qc p s c x false/\qe c (cQ p x) x:=by
 unfold kG at h
 unfold E'
 by_cases h1:du p s c≠0
 ·rw[if_pos h1] at h;exact absurd h h1
 rw[if_neg h1] at h⊢
 by_cases h2:¬qc p s c x false
 ·rw[if_pos h2] at h;omega
 rw[if_neg h2] at h⊢
 by_cases h3:¬qe c (cQ p x) x
 ·rw[if_pos h3] at h;omega
 rw[if_neg h3]
 exact⟨rfl,Classical.not_not.1 h2,Classical.not_not.1 h3⟩
theorem Lw {p:ap} {s:aN} {c:aD} {x:bX} (h:kG p s c x≠0):E' p s c x= .tup [.agg (cy cf), .int .i64 (kG p s c x)]:=by
 unfold kG at h⊢
 unfold E'
 by_cases h1:du p s c≠0
 ·rw[if_pos h1,if_pos h1]
 rw[if_neg h1] at h⊢
 rw[if_neg h1]
 by_cases h2:¬qc p s c x false
 ·rw[if_pos h2,if_pos h2]
 rw[if_neg h2] at h⊢
 rw[if_neg h2]
 by_cases h3:¬qe c (cQ p x) x
 ·rw[if_pos h3,if_pos h3]
 ·rw[if_neg h3] at h;exact absurd rfl h
def b9 (p:ap) (ri:Int):Int:=(p.rules.getD ri.toNat au).src
noncomputable def dY (p:ap) (s:aN) (ri:Int) (lo hi:Nat):Nat->aD->List bX->aD×List bX×Int
 |0,c,xs=>(c,xs,0)
 |n+1,c,xs=>
  if mT c.states (b9 p ri) (hi-lo) lo<0 then(cf,[],9)
  else if kG p s c ⟨ri,mT c.states (b9 p ri) (hi-lo) lo,-1⟩≠0 then(cf,[],kG p s c ⟨ri,mT c.states (b9 p ri) (hi-lo) lo,-1⟩)
  else dY p s ri lo hi n (fQ c (p.rules.getD ri.toNat au) ⟨ri,mT c.states (b9 p ri) (hi-lo) lo,-1⟩) (xs++[⟨ri,mT c.states (b9 p ri) (hi-lo) lo,-1⟩])
def Lx (xs:List bX) (R:aD×List bX×Int):aD×List bX×Int:=if R.2.2=0 then(R.1,xs++R.2.1,0) else(cf,[],R.2.2)
theorem zD (p:ap) (s:aN) (ri:Int) (lo hi:Nat):∀n c xs ys,dY p s ri lo hi n c (xs++ys)=Lx xs (dY p s ri lo hi n c ys)
 |0,c,xs,ys=>rfl
 |n+1,c,xs,ys=>by
  unfold dY
  by_cases h1:mT c.states (b9 p ri) (hi-lo) lo<0
  ·rw[if_pos h1,if_pos h1];rfl
  rw[if_neg h1,if_neg h1]
  by_cases h2:kG p s c ⟨ri,mT c.states (b9 p ri) (hi-lo) lo,-1⟩≠0
  ·rw[if_pos h2,if_pos h2];unfold Lx;rw[if_neg h2]
  rw[if_neg h2,if_neg h2,List.append_assoc,zD p s ri lo hi n]
theorem r6 {p:ap} {s:aN} {c:aD} {ri i:Int} (h:fp p s c) (he:kG p s c ⟨ri,i,-1⟩=0):fp p s (fQ c (p.rules.getD ri.toNat au) ⟨ri,i,-1⟩):=by
 obtain⟨_,a,b⟩:=xB he
 exact h.next a b
theorem nt (p:ap) (s:aN) (ri:Int) (lo hi:Nat):∀n c xs,fp p s c->
  ((dY p s ri lo hi n c xs).2.2=0/\fp p s (dY p s ri lo hi n c xs).1/\(dY p s ri lo hi n c xs).1.states.length=c.states.length/\(dY p s ri lo hi n c xs).1.correct=c.correct/\(dY p s ri lo hi n c xs).2.1.length=xs.length+n)\/
  ((dY p s ri lo hi n c xs).2.2≠0/\(dY p s ri lo hi n c xs).1=cf/\(dY p s ri lo hi n c xs).2.1=[])
 |0,c,xs,h=>.inl ⟨rfl,h,rfl,rfl,rfl⟩
 |n+1,c,xs,h=>by
  unfold dY
  by_cases h1:mT c.states (b9 p ri) (hi-lo) lo<0
  ·rw[if_pos h1];exact .inr ⟨by decide,rfl,rfl⟩
  rw[if_neg h1]
  by_cases h2:kG p s c ⟨ri,mT c.states (b9 p ri) (hi-lo) lo,-1⟩≠0
  ·rw[if_pos h2];exact .inr ⟨h2,rfl,rfl⟩
  rw[if_neg h2]
  have h2:=Classical.not_not.1 h2
  have ih:=nt p s ri lo hi n _ (xs++[⟨ri,mT c.states (b9 p ri) (hi-lo) lo,-1⟩]) (r6 h h2)
  rw[List.length_append,List.length_singleton] at ih
  have hl:(fQ c (p.rules.getD ri.toNat au) ⟨ri,mT c.states (b9 p ri) (hi-lo) lo,-1⟩).states.length=c.states.length:=iU _ _ _
  rcases ih with ⟨a,b,d,e,f⟩|ih
  ·exact .inl ⟨a,b,d.trans hl,e,by omega⟩
  ·exact .inr ih
def OS (R:aD×List bX×Int) (u:AV) (M:ac):Prop:=(R.2.2=0/\u= .tup [.agg (cy R.1), .row 1000 R.2.1.length 3, .int .i64 0]/\M 1000=some (.row 77 qO iA R.2.1))\/(R.2.2≠0/\u= .tup [.agg j6, .nilsl, .int .i64 R.2.2])
theorem Df (p:ap) (s:aN) (c:aD) (hp:qz p) (h:fp p s c) (ri:Int) (hr:0<=ri/\ri<p.rules.length) (hk1:∀i,K1 p ⟨ri,i,-1⟩) (n:Nat) (hn:n<=8) (lo hi:Nat) (hh:hi<=c.states.length):
  aj Tryz.prog 181 [.agg (dg p), .agg (gr s), .agg (cy c), .int .i64 ri, .int .i64 (n:Int), .int .i64 (lo:Int), .int .i64 (hi:Int)] (ac.ofL []) (OS (dY p s ri lo hi n c [])):=by
 have hle:=eX h.big
 refine aj.intro ae ag [] Tryz.func181 rfl (by decide) ?_
 conv=>whnf
 refine ar rfl ?_
 conv=>whnf
 refine ar rfl ?_
 conv=>whnf
 refine yl ?_
 conv=>whnf
 refine a8.loopF ae ag (fun y:Nat×aD×List bX=>y.1<=n/\fp p s y.2.1/\y.2.1.states.length=c.states.length/\y.2.2.length=y.1/\dY p s ri lo hi n c []=dY p s ri lo hi (n-y.1) y.2.1 y.2.2) (fun y=>[(22, .int .i64 (y.1:Int)),(17, .row 1000 y.2.2.length 3)]) (fun y=>[(9, .box 61 (cy y.2.1)),(14, .box 61 j6),(1000, .row 77 qO iA y.2.2)]) (fun y=>n-y.1) (0,c,[]) ⟨Nat.zero_le _,h,rfl,rfl,rfl⟩ ?_;conv=>whnf
 refine⟨bd.by_ [(9, .old 9),(14, .old 14),(1000, .nil 3)] _ 400 rfl (aa) (aa),?_⟩
 rintro⟨k,d,xs⟩ ⟨hk,hd,hl,hx,hE⟩
 dsimp only at hk hd hl hx hE
 have hw:=eY hd.wide
 have hcd:MJ d:=by unfold MJ;omega
 conv=>whnf
 refine ai ?_ ?_<;>(intro g1;conv=>whnf)
 ·have hkn:k<n:=by omega
  have e1:n-k=(n-(k+1))+1:=by omega
  rw[e1] at hE
  clear e1
  have eA:dY p s ri lo hi (n-(k+1)+1) d xs=if mT d.states (b9 p ri) (hi-lo) lo<0 then(cf,[],9) else if kG p s d ⟨ri,mT d.states (b9 p ri) (hi-lo) lo,-1⟩≠0 then(cf,[],kG p s d ⟨ri,mT d.states (b9 p ri) (hi-lo) lo,-1⟩) else dY p s ri lo hi (n-(k+1)) (fQ d (p.rules.getD ri.toNat au) ⟨ri,mT d.states (b9 p ri) (hi-lo) lo,-1⟩) (xs++[⟨ri,mT d.states (b9 p ri) (hi-lo) lo,-1⟩]):=rfl
  rw[eA] at hE
  clear eA
  have hT:=OQ d (b9 p ri) lo hi (by omega) (by omega)
  have hA:=fun i=>OP p s d ⟨ri,i,-1⟩ hp hcd (hk1 i)
  generalize mT d.states (b9 p ri) (hi-lo) lo=i at hE hT
  have hA:=hA i
  refine dI ?_
  conv=>whnf
  refine nI ?_
  conv=>whnf
  (refine oC (hT) ?_;conv=>whnf)
  refine ai ?_ ?_<;>(intro g2;conv=>whnf)
  ·rw[if_pos g2] at hE
   rw[hE]
   exact .inr ⟨by decide,rfl⟩
  rw[if_neg g2] at hE
  by_cases h0:kG p s d ⟨ri,i,-1⟩=0
  rotate_left
  ·rw[if_pos h0] at hE
   rw[Lw h0] at hA
   rw[hE]
   generalize kG p s d ⟨ri,i,-1⟩=e at h0 hA
   (refine oP (hA) ?_;conv=>whnf)
   refine dQ h0 ?_
   conv=>whnf
   exact .inr ⟨h0,rfl⟩
  rw[if_neg (fun y=>y h0)] at hE
  obtain⟨eA,q1,q2⟩:=xB h0
  have hrx:=r6 hd h0
  have hlx:(fQ d (p.rules.getD ri.toNat au) ⟨ri,i,-1⟩).states.length=d.states.length:=iU _ _ _
  rw[eA] at hA
  have eR:cQ p ⟨ri,i,-1⟩=p.rules.getD ri.toNat au:=rfl
  rw[eR] at hA
  generalize fQ d (p.rules.getD ri.toNat au) ⟨ri,i,-1⟩=d' at hA hE hrx hlx
  (refine oP (hA) ?_;conv=>whnf)
  refine fI ?_
  conv=>whnf
  refine o9 ?_
  conv=>whnf
  repeat' first
   |exact True.intro
   |(refine c7 qO iA [⟨ri,i,-1⟩] rfl ?_;conv=>whnf)
   |(refine dn ?_;conv=>whnf)
   |(refine di [⟨ri,i,-1⟩] rfl lI ?_;conv=>whnf)
   |(refine aI ?_;conv=>whnf)
   |exact⟨(k+1,d',xs++[⟨ri,i,-1⟩]),bd.by_ [(9, .old 9),(14, .old 14),(1000, .old 56)] _ 400 rfl (aa) (aa),⟨by dsimp only;omega,hrx,by dsimp only;omega,by dsimp only;rw[List.length_append,List.length_singleton];omega,hE⟩,by dsimp only;omega⟩
   |(refine And.intro ?_ ?_<;>conv=>whnf)
   |fail
 ·obtain rfl:k=n:=by omega
  rw[Nat.sub_self] at hE
  rw[hE]
  exact .inl ⟨rfl,rfl,rfl⟩
noncomputable def gu (p:ap) (s:aN) (c:aD) (ri:Int) (n m:Nat):aD×List bX×Int:=
 if(dY p s ri 0 c.correct.toNat n c []).2.2≠0 then(cf,[],(dY p s ri 0 c.correct.toNat n c []).2.2)
 else dY p s ri c.correct.toNat c.states.length m (dY p s ri 0 c.correct.toNat n c []).1 (dY p s ri 0 c.correct.toNat n c []).2.1
def QM (R:aD×List bX×Int):AV:=.tup [.agg (cy R.1), .sl qO iA R.2.1, .int .i64 R.2.2]
theorem Dg {R:aD×List bX×Int} {ℓ:Nat} (h:R.2.2=0):∀u M',OS R u M'->bD [(ℓ, .old 1000)] 400 M' [(ℓ, .row 77 qO iA R.2.1)]/\lU [(ℓ, .old 1000)] 400 u (.tup [.agg (cy R.1), .row ℓ R.2.1.length 3, .int .i64 0]):=by
 rintro u M' (⟨_,rfl,hM⟩|⟨h1,_⟩)
 ·constructor
  ·simp[bD,al,jx,hM]
  ·simp[lU,fV,al,cy]
 ·exact absurd h h1
theorem Il {R:aD×List bX×Int} (h:R.2.2≠0):∀u M',OS R u M'->bD [] 400 M' []/\lU [] 400 u (.tup [.agg j6, .nilsl, .int .i64 R.2.2]):=by
 rintro u M' (⟨h1,_⟩|⟨_,rfl⟩)
 ·exact absurd h1 h
 ·exact⟨trivial,aa⟩
theorem OT (p:ap) (s:aN) (c:aD) (hp:qz p) (h:fp p s c) (ri:Int) (hr:0<=ri/\ri<p.rules.length) (hk1:∀i,K1 p ⟨ri,i,-1⟩) (n m:Nat) (hn:n<=8) (hm:m<=8):
  ab Tryz.prog 92 [.agg (dg p), .agg (gr s), .agg (cy c), .int .i64 ri, .int .i64 (n:Int), .int .i64 (m:Int)] (fun u=>u=QM (gu p s c ri n m)):=by
 have hcor:=h.vc.cor
 have hlen:=h.vc.len
 have hsz:=h.sz
 have hmod:s.n-s.f<=iy p s:=by unfold iy;split<;>omega
 have hw:=eY h.wide
 have hA:=Df p s c hp h ri hr hk1 n hn 0 c.correct.toNat (by omega)
 have kA:=nt p s ri 0 c.correct.toNat n c [] h
 have eC:((c.correct.toNat:Nat):Int)=c.correct:=Int.toNat_of_nonneg (by omega)
 rw[eC] at hA
 unfold gu
 generalize dY p s ri 0 c.correct.toNat n c []=A at hA kA⊢
 rcases kA with ⟨a1,a2,a3,a4,a5⟩|⟨a1,a2,a3⟩
 rotate_left
 ·rw[if_pos a1]
  have hA1:=Il a1
  generalize A.2.2=e at a1 hA1
  refine ab.sub (R:=fun u=>u= .tup [.agg j6, .nilsl, .int .i64 e]) ?_ (by rintro _ rfl;exact⟨_,rfl,aa,rfl⟩)
  refine ab.intro ae ag Tryz.func92 rfl (by decide) ?_;(conv=>whnf)
  refine ar rfl ?_
  conv=>whnf
  refine ar rfl ?_
  conv=>whnf
  refine ar rfl ?_
  conv=>whnf
  refine aj.news 400 [] [] (.tup [.agg j6, .nilsl, .int .i64 e]) hA (aa) rfl hA1 ?_
  conv=>whnf
  refine dQ a1 ?_
  conv=>whnf
  exact⟨rfl,rfl⟩
 rw[if_neg (fun y=>y a1)]
 have hB:=Df p s A.1 hp a2 ri hr hk1 m hm c.correct.toNat c.states.length (by omega)
 have kB:=nt p s ri c.correct.toNat c.states.length m A.1 [] a2
 have eB:=zD p s ri c.correct.toNat c.states.length m A.1 A.2.1 []
 rw[List.append_nil] at eB
 rw[eB,eC] at*
 clear eB
 have hA0:=Dg (ℓ:=1001) a1
 generalize dY p s ri c.correct.toNat c.states.length m A.1 []=B at hB kB⊢
 obtain⟨d,xs,e⟩:=A
 dsimp only at*
 rcases kB with ⟨b1,b2,b3,b4,b5⟩|⟨b1,b2,b3⟩
 rotate_left
 ·have hB1:=Il b1
  unfold Lx
  rw[if_neg b1]
  generalize B.2.2=f at b1 hB1
  refine ab.sub (R:=fun u=>u= .tup [.agg j6, .nilsl, .int .i64 f]) ?_ (by rintro _ rfl;exact⟨_,rfl,aa,rfl⟩)
  refine ab.intro ae ag Tryz.func92 rfl (by decide) ?_;(conv=>whnf)
  refine ar rfl ?_
  conv=>whnf
  refine ar rfl ?_
  conv=>whnf
  refine ar rfl ?_
  conv=>whnf
  refine aj.news 400 [(1001, .old 1000)] [(1001, .row 77 qO iA xs)] (.tup [.agg (cy d), .row 1001 xs.length 3, .int .i64 0]) hA (aa) rfl hA0 ?_
  conv=>whnf
  refine fI ?_
  conv=>whnf
  refine aj.news 400 [] [] (.tup [.agg j6, .nilsl, .int .i64 f]) hB (aa) rfl hB1 ?_
  conv=>whnf
  refine dQ b1 ?_
  conv=>whnf
  exact⟨rfl,rfl⟩
 have hB0:=Dg (ℓ:=1002) b1
 unfold Lx
 rw[if_pos b1]
 obtain⟨d',ys,f⟩:=B
 dsimp only at*
 refine ab.intro ae ag Tryz.func92 rfl (by decide) ?_;(conv=>whnf)
 refine ar rfl ?_
 conv=>whnf
 refine ar rfl ?_
 conv=>whnf
 refine ar rfl ?_
 conv=>whnf
 refine aj.news 400 [(1001, .old 1000)] [(1001, .row 77 qO iA xs)] (.tup [.agg (cy d), .row 1001 xs.length 3, .int .i64 0]) hA (aa) rfl hA0 ?_
 conv=>whnf
 refine fI ?_
 conv=>whnf
 refine aj.news 400 [(1002, .old 1000)] [(1002, .row 77 qO iA ys)] (.tup [.agg (cy d'), .row 1002 ys.length 3, .int .i64 0]) hB (aa) rfl hB0 ?_
 conv=>whnf
 refine fI ?_
 conv=>whnf
 refine MH [1,2] (by decide+kernel) ?_
 conv=>whnf
 repeat' first
  |exact True.intro
  |(refine dn ?_;conv=>whnf)
  |(refine di ys rfl (by dsimp only;simp only[List.length_nil] at a5 b5;omega) ?_;conv=>whnf)
  |(refine And.intro ?_ ?_<;>conv=>whnf)
  |exact rfl
  |fail
end
section
open Go.ChangeShapes Go.WideShapes Go.ChangeAt Go.RowKit
end
section
set_option maxRecDepth 100000
set_option maxHeartbeats 16000000
theorem Dh {p:ap} {s:aN} {c:aD} {ri:Int} {n m:Nat} (h:fp p s c):((gu p s c ri n m).2.2=0/\fp p s (gu p s c ri n m).1/\(gu p s c ri n m).2.1.length=n+m)\/((gu p s c ri n m).2.2≠0/\(gu p s c ri n m).1=cf/\(gu p s c ri n m).2.1=[]):=by
 unfold gu
 rcases nt p s ri 0 c.correct.toNat n c [] h with ⟨a,b,_,_,e⟩|⟨a,_,_⟩
 ·rw[if_neg (fun y=>y a)]
  rcases nt p s ri c.correct.toNat c.states.length m _ (dY p s ri 0 c.correct.toNat n c []).2.1 b with ⟨x,y,_,_,z⟩|h
  ·exact .inl ⟨x,y,by rw[z,e];simp⟩
  ·exact .inr h
 ·rw[if_pos a];exact .inr ⟨a,rfl,rfl⟩
set_option maxHeartbeats 4000000
theorem gj (c d a:Co) (k:Int):∀l,cg (cB c k d) a l=cg c a l+k*cg d a l
 |[]=>by simp[cg]
 |v::l=>by
  rw[cg,cg,cg,gj c d a k l,Int.mul_add,<-Int.mul_assoc]
  show(c v+k*d v)*a v+_=_
  rw[Int.add_mul]
  omega
theorem t8 {c d a:Co}:∀{l:List Vb},(∀v∈l,c v<=d v)->(∀v∈l,0<=a v)->cg c a l<=cg d a l
 |[],_,_=>Int.le_refl _
 |v::l,h,ha=>by
  have ih:=t8 (l:=l) (fun x hx=>h x (List.mem_cons_of_mem _ hx)) fun x hx=>ha x (List.mem_cons_of_mem _ hx)
  have:=Int.mul_le_mul_of_nonneg_right (h v List.mem_cons_self) (ha v List.mem_cons_self)
  rw[cg,cg]
  omega
def xC (c:Co) (v0:Vb):Co:=fun v=>c v-if v=v0 then 1 else 0
theorem Di {c a:Co} {v0:Vb}:∀{l:List Vb},v0∈l->(∀v∈l,0<=a v)->cg (xC c v0) a l<=cg c a l-a v0
 |[],h,_=>by simp at h
 |v::l,h,ha=>by
  have ha':∀x∈l,0<=a x:=fun x hx=>ha x (List.mem_cons_of_mem _ hx)
  rw[cg,cg]
  by_cases e:v=v0
  ·subst e
   have hm:cg (xC c v) a l<=cg c a l:=t8 (fun x _=>by unfold xC;split<;>omega) ha'
   have e1:xC c v v=c v-1:=by simp[xC]
   rw[e1,Int.sub_mul,Int.one_mul]
   omega
  ·have ih:=Di (c:=c) (a:=a) (l:=l) (by simpa[Ne.symm e] using h) ha'
   have e1:xC c v0 v=c v:=by simp[xC,e]
   rw[e1]
   omega
def zE (rs:List bE) (start fire:Int) (seg:Nat):Nat->Co
 |0=>zC
 |m+1=>cB (zE rs start fire seg m) 1 (cG rs start fire (m:Int) (seg+1) 0)
theorem Dj (rs:List bE) (start fire:Int) (seg:Nat) (v:Vb):∀m,zE rs start fire seg m v=(if v.kind=start/\v.seg=0/\0<=v.idx/\v.idx<(m:Nat) then 1 else 0)+
  if gg rs.length fire (seg+1) 0 v then(if 0<=(rs.getD v.idx.toNat au).dst/\(rs.getD v.idx.toNat au).dst<(m:Nat) then 1 else 0)-(if 0<=(rs.getD v.idx.toNat au).src/\(rs.getD v.idx.toNat au).src<(m:Nat) then 1 else 0) else 0
 |0=>by
  rw[if_neg (by omega)]
  unfold zE zC
  split
  ·rw[if_neg (by omega),if_neg (by omega)];rfl
  ·rfl
 |m+1=>by
  have hv:v=⟨start,0,(m:Int)⟩↔v.kind=start/\v.seg=0/\v.idx=m:=⟨fun e=>by subst e;exact⟨rfl,rfl,rfl⟩,fun e=>lw e.1 e.2.1 e.2.2⟩
  show zE rs start fire seg m v+1*cG rs start fire (m:Int) (seg+1) 0 v=_
  rw[Dj rs start fire seg v m]
  unfold cG Mx
  generalize (rs.getD v.idx.toNat au).dst=y
  generalize (rs.getD v.idx.toNat au).src=x
  have e1:(if v=⟨start,0,(m:Int)⟩ then(1:Int) else 0)=if v.kind=start/\v.seg=0/\v.idx=m then 1 else 0:=by simp only[hv]
  rw[e1]
  by_cases hf:gg rs.length fire (seg+1) 0 v
  ·rw[if_pos hf,if_pos hf,if_pos hf]
   (repeat' split)<;>omega
  ·rw[if_neg hf,if_neg hf,if_neg hf]
   (repeat' split)<;>omega
theorem Im {rs:List bE} {start fire:Int} {seg ns:Nat} {a:Co} {vars:List Vb} (h:∀x:Nat,x<ns->0<=cg (cG rs start fire (x:Int) (seg+1) 0) a vars):∀m,m<=ns->0<=cg (zE rs start fire seg m) a vars
 |0,_=>by rw[eK (c:=zE rs start fire seg 0) (fun v _=>rfl)];exact Int.le_refl _
 |m+1,hm=>by
  have ih:=Im h m (by omega)
  have:=h m (by omega)
  show 0<=cg (cB (zE rs start fire seg m) 1 (cG rs start fire (m:Int) (seg+1) 0)) a vars
  rw[gj]
  omega
theorem Io {p:ap} {sch:List Int} {start fire:Int} {seg:Nat} {a:Co} {vars:List Vb} (ht:io p) (hs:start=3/\fire=5\/start=4/\fire=6)
  (hk:∀v∈vars,My p sch v) (ha:∀v∈vars,0<=a v) (hr:∀j,j<p.rules.length->0<=(p.rules.getD j au).src/\(p.rules.getD j au).src<p.states.length)
  (h:∀x:Nat,x<p.states.length->0<=cg (cG p.rules start fire (x:Int) (seg+1) 0) a vars) {j r:Nat} (hj:j<=seg) (hr0:r<p.rules.length) (hv0:(⟨fire,j,r⟩:Vb)∈vars):a ⟨fire,j,r⟩<=cg (vD start) a vars:=by
 have hsr:=hr r hr0
 obtain⟨m,hm⟩:∃m:Nat,(p.rules.getD r au).src=m:=⟨(p.rules.getD r au).src.toNat,by omega⟩
 have h1:=Im h (m+1) (by omega)
 have h2:cg (zE p.rules start fire seg (m+1)) a vars<=cg (xC (vD start) ⟨fire,j,r⟩) a vars:=by
  refine t8 (fun v hv=>?_) ha
  rw[Dj]
  have hkv:=hk v hv
  unfold xC vD
  by_cases hf:gg p.rules.length fire (seg+1) 0 v
  ·rw[if_pos hf]
   obtain⟨f1,f2,f3,f4⟩:=hf
   have hi:v.idx.toNat<p.rules.length:=by
    unfold My at hkv
    rcases hkv with (e|e|e)|hkv|hkv
    ·subst e;dsimp only at f1;omega
    ·subst e;dsimp only at f1;omega
    ·subst e;dsimp only at f1;omega
    ·omega
    ·omega
   have h3:=(ht.2.2 v.idx.toNat hi).2.1
   have h4:=hr v.idx.toNat hi
   rw[if_neg (by omega),if_neg (by omega:¬v.kind=start)]
   by_cases e:v=⟨fire,j,r⟩
   ·rw[if_pos e]
    have e2:v.idx.toNat=r:=by rw[e];exact tN r
    rw[e2] at h3 h4⊢
    rw[if_neg (by omega),if_pos (by omega)]
    decide
   ·rw[if_neg e]
    (repeat' split)<;>omega
  ·rw[if_neg hf]
   have hne:v≠⟨fire,j,r⟩:=fun e=>hf (by subst e;exact⟨rfl,by dsimp only;omega,by dsimp only;omega, .inl ⟨by dsimp only;omega,by dsimp only;omega⟩⟩)
   rw[if_neg hne]
   (repeat' split)<;>omega
 have h3:=Di (c:=vD start) hv0 ha
 omega
theorem vR {c d a:Co}:∀{l:List Vb},(∀v∈l,c v=d v)->cg c a l=cg d a l
 |[],_=>rfl
 |v::l,h=>by rw[cg,cg,h v List.mem_cons_self,vR (l:=l) fun x hx=>h x (List.mem_cons_of_mem _ hx)]
theorem t9 {l:l7} {v:Vb} (h:3<=v.kind):gt l v=0:=by
 unfold gt
 rw[if_neg (fun e=>by subst e;dsimp only at h;omega),if_neg (fun e=>by subst e;dsimp only at h;omega),if_neg (fun e=>by subst e;dsimp only at h;omega)]
theorem BP {p:ap} {q:aJ} {sch:List Int} (l:l7) (a:Co):cg (gt l) a (ao p q sch)=l.n*a ⟨0,0,0⟩+l.t*a ⟨1,0,0⟩+l.f*a ⟨2,0,0⟩:=by
 unfold ao
 rw[lD,lD,eK (l:=uF p q) (fun v hv=>t9 (by
  unfold uF at hv
  rcases List.mem_append.1 hv with hv|hv
  ·obtain⟨x,_,rfl⟩:=List.mem_map.1 hv;dsimp only;omega
  ·split at hv
   ·obtain⟨x,_,rfl⟩:=List.mem_map.1 hv;dsimp only;omega
   ·simp at hv)),eK (l:=(List.range (sch.length+1)).flatMap fun j=>dW p sch j p.rules.length) (fun v hv=>t9 (by
  obtain⟨j,_,hv⟩:=List.mem_flatMap.1 hv
  obtain⟨r,_,hv⟩:=eJ hv
  have:=(fC hv).1
  omega))]
 simp[cg,gt]
 omega
section
variable {p:ap} {q:aJ} {sch:List Int} {number:Int} {a:Co}
theorem OU (h:bF p q=0) {kind:Int} (hk:kind=3\/kind=4):cg (uG kind p.states.length) a (ao p q sch)=cg (vD kind) a (ao p q sch):=by
 refine vR fun v hv=>?_
 have hv:=kz h hv
 unfold uG vD
 by_cases e:v.kind=kind
 ·rw[if_pos e]
  unfold My at hv
  rcases hv with (e2|e2|e2)|hv|hv
  ·subst e2;dsimp only at e;omega
  ·subst e2;dsimp only at e;omega
  ·subst e2;dsimp only at e;omega
  ·rw[if_pos ⟨e,hv.2⟩]
  ·omega
 ·rw[if_neg e,if_neg (fun hh=>e hh.1)]
theorem Dk (h:bF p q=0) {kind:Int} (hk:kind=3\/kind=4) {l:l7} (hl:l.c=0)
  (h1:0<=(gh kind p.states.length 1 l).2+cg (gh kind p.states.length 1 l).1 a (ao p q sch))
  (h2:0<=(gh kind p.states.length (-1) l).2+cg (gh kind p.states.length (-1) l).1 a (ao p q sch)):
  cg (vD kind) a (ao p q sch)=l.n*a ⟨0,0,0⟩+l.t*a ⟨1,0,0⟩+l.f*a ⟨2,0,0⟩:=by
 unfold gh at h1 h2
 dsimp only at h1 h2
 have hz:cg zC a (ao p q sch)=0:=eK (c:=zC) fun v _=>rfl
 rw[gj,gj,hz,OU h hk,BP,hl] at h1 h2
 omega
theorem lG (h:bF p q=0) (hs:∀r∈iQ p q sch number,0<=r.2+cg r.1 a (ao p q sch)):
  cg (vD 3) a (ao p q sch)=a ⟨0,0,0⟩-a ⟨2,0,0⟩/\(lx p->cg (vD 4) a (ao p q sch)=a ⟨2,0,0⟩):=by
 have hm:∀r∈lV p,r∈iQ p q sch number:=fun r hr=>by
  unfold iQ
  exact List.mem_append_left _ (List.mem_append_left _ (List.mem_append_right _ hr))
 constructor
 ·have h1:=hs _ (hm (gh 3 p.states.length 1 ⟨0,1,0,-1⟩) (by unfold lV;exact List.mem_append_left _ (by simp)))
  have h2:=hs _ (hm (gh 3 p.states.length (-1) ⟨0,1,0,-1⟩) (by unfold lV;exact List.mem_append_left _ (by simp)))
  have:=Dk h (.inl rfl) rfl h1 h2
  dsimp only at this
  omega
 ·intro hw
  have h1:=hs _ (hm (gh 4 p.states.length 1 ⟨0,0,0,1⟩) (by unfold lV;rw[if_pos hw];exact List.mem_append_right _ (by simp)))
  have h2:=hs _ (hm (gh 4 p.states.length (-1) ⟨0,0,0,1⟩) (by unfold lV;rw[if_pos hw];exact List.mem_append_right _ (by simp)))
  have:=Dk h (.inr rfl) rfl h1 h2
  dsimp only at this
  omega
theorem Ip (h:bF p q=0) (ht:io p) (hr:∀j,j<p.rules.length->0<=(p.rules.getD j au).src/\(p.rules.getD j au).src<p.states.length) (ha:∀v∈ao p q sch,0<=a v)
  (hs:∀r∈iQ p q sch number,0<=r.2+cg r.1 a (ao p q sch)) {j r:Nat}:
  ((⟨5,j,r⟩:Vb)∈ao p q sch->a ⟨5,j,r⟩<=a ⟨0,0,0⟩-a ⟨2,0,0⟩)/\((⟨6,j,r⟩:Vb)∈ao p q sch->a ⟨6,j,r⟩<=a ⟨2,0,0⟩):=by
 have hz:cg zC a (ao p q sch)=0:=eK (c:=zC) fun v _=>rfl
 have hk:∀v∈ao p q sch,My p sch v:=fun v hv=>kz h hv
 have hm:∀r∈lW p sch sch.length,r∈iQ p q sch number:=fun r hr=>by
  unfold iQ
  exact List.mem_append_left _ (List.mem_append_right _ (List.mem_flatMap.2 ⟨sch.length,List.mem_range.2 (by omega),hr⟩))
 have hst:=lG h hs
 have key:∀v∈ao p q sch,v.kind=5\/v.kind=6->(v.seg<=sch.length/\0<=v.idx/\v.idx<p.rules.length)/\(v.kind=6->lx p):=fun v hv e=>by
  have:=hk v hv
  unfold My at this
  rcases this with (e2|e2|e2)|this|this
  ·subst e2;dsimp only at e;omega
  ·subst e2;dsimp only at e;omega
  ·subst e2;dsimp only at e;omega
  ·omega
  ·refine⟨by omega,fun e6=>?_⟩
   rcases this.1 with e5|⟨_,hw⟩
   ·omega
   ·exact hw
 constructor
 ·intro hv
  have hb:=(key _ hv (.inl rfl)).1
  dsimp only at hb
  rw[<-hst.1]
  refine Io ht (.inl ⟨rfl,rfl⟩) hk ha hr (seg:=sch.length) (fun x hx=>?_) (by omega) (by omega) hv
  have:=hs _ (hm (tL p 3 5 x sch.length) (by
   unfold lW
   exact List.mem_append_left _ (List.mem_append_right _ (List.mem_map.2 ⟨x,List.mem_range.2 hx,rfl⟩))))
  unfold tL at this
  dsimp only at this
  rw[gj,hz] at this
  omega
 ·intro hv
  obtain⟨hb,hw⟩:=key _ hv (.inr rfl)
  have hw:=hw rfl
  dsimp only at hb
  rw[<-hst.2 hw]
  refine Io ht (.inr ⟨rfl,rfl⟩) hk ha hr (seg:=sch.length) (fun x hx=>?_) (by omega) (by omega) hv
  have:=hs _ (hm (tL p 4 6 x sch.length) (by
   unfold lW
   rw[if_pos hw]
   exact List.mem_append_right _ (List.mem_map.2 ⟨x,List.mem_range.2 hx,rfl⟩)))
  unfold tL at this
  dsimp only at this
  rw[gj,hz] at this
  omega
end
end
section
set_option maxRecDepth 100000
set_option maxHeartbeats 4000000
def gR (a:Co) (kind:Int) (l:List Int):List Int:=l.flatMap fun x=>List.replicate (a ⟨kind,0,x⟩).toNat x
noncomputable def bw (p:ap) (q:aJ) (a:Co):aD:=
 ⟨[],gR a 3 (cA p q)++(if lx p then gR a 4 p.initial else[]),a ⟨0,0,0⟩-a ⟨2,0,0⟩,List.replicate p.messages.length 0,List.replicate p.messages.length 0,0⟩
def fR (a:Co):aN:=⟨a ⟨0,0,0⟩,a ⟨1,0,0⟩,a ⟨2,0,0⟩⟩
theorem r7 {a:Co} {kind:Int} {l:List Int} {x:Int} (h:x∈gR a kind l):x∈l:=by
 unfold gR at h
 obtain⟨y,hy,hx⟩:=List.mem_flatMap.1 h
 rw[(List.mem_replicate.1 hx).2]
 exact hy
theorem xD {a:Co} {kind:Int} {l:List Int} (ha:∀x∈l,0<=a ⟨kind,0,x⟩):((gR a kind l).length:Int)=cg (vD kind) a (l.map fun x=>⟨kind,0,x⟩):=by
 induction l with
 |nil=>simp[gR,cg]
 |cons x l ih=>
  have h1:=ih fun y hy=>ha y (List.mem_cons_of_mem _ hy)
  have h2:=ha x List.mem_cons_self
  have e:vD kind ⟨kind,0,x⟩=1:=by simp[vD]
  unfold gR at h1⊢
  rw[List.flatMap_cons,List.length_append,List.length_replicate,List.map_cons,cg,<-h1,e]
  omega
theorem pP {kind:Int} {v:Vb} (h:v.kind≠kind):vD kind v=0:=by simp[vD,h]
theorem Iq {p:ap} {q:aJ} {sch:List Int} {a:Co}:cg (vD 3) a (ao p q sch)=cg (vD 3) a ((cA p q).map fun x=>⟨3,0,x⟩)/\(lx p->cg (vD 4) a (ao p q sch)=cg (vD 4) a (p.initial.map fun x=>⟨4,0,x⟩)):=by
 have hh:∀kind:Int,kind=3\/kind=4->cg (vD kind) a (ao p q sch)=cg (vD kind) a (uF p q):=fun kind hk=>by
  unfold ao
  rw[lD,lD,eK (l:=[⟨0,0,0⟩,⟨1,0,0⟩,⟨2,0,0⟩]) (fun v hv=>pP (by
   simp only[List.mem_cons,List.not_mem_nil,or_false] at hv
   rcases hv with rfl|rfl|rfl<;>(dsimp only;omega))),eK (l:=(List.range (sch.length+1)).flatMap fun j=>dW p sch j p.rules.length) (fun v hv=>pP (by
   obtain⟨j,_,hv⟩:=List.mem_flatMap.1 hv
   obtain⟨r,_,hv⟩:=eJ hv
   have:=(fC hv).1
   omega))]
  omega
 constructor
 ·rw[hh 3 (.inl rfl)]
  unfold uF
  rw[lD]
  split
  ·rw[eK (l:=p.initial.map fun x=>⟨4,0,x⟩) (fun v hv=>pP (by obtain⟨x,_,rfl⟩:=List.mem_map.1 hv;dsimp only;omega))]
   omega
  ·simp[cg]
 ·intro hw
  rw[hh 4 (.inr rfl)]
  unfold uF
  rw[if_pos hw,lD,eK (l:=(cA p q).map fun x=>⟨3,0,x⟩) (fun v hv=>pP (by obtain⟨x,_,rfl⟩:=List.mem_map.1 hv;dsimp only;omega))]
  omega
theorem qP {p:ap} {q:aJ} {sch:List Int} {number:Int} {a:Co} (hs:∀r∈iQ p q sch number,0<=r.2+cg r.1 a (ao p q sch)) {l:l7} (hl:l∈ky p):0<=ku l (fR a):=by
 have h:=hs (uH l) (by
  unfold iQ
  exact List.mem_append_left _ (List.mem_append_left _ (List.mem_append_left _ (List.mem_map.2 ⟨l,hl,rfl⟩))))
 unfold uH at h
 dsimp only at h
 rw[BP] at h
 unfold ku fR
 dsimp only
 omega
theorem OV {p:ap} {q:aJ} {sch:List Int} {number:Int} {a:Co} (hp:bF p q=0) (ht:io p) (ha:∀v∈ao p q sch,0<=a v)
  (hs:∀r∈iQ p q sch number,0<=r.2+cg r.1 a (ao p q sch)) (hn:a ⟨0,0,0⟩<=8):fp p (fR a) (bw p q a):=by
 have hv:=(bf hp).vld
 have hin:=(a9 hv).ini
 have h0:(⟨0,0,0⟩:Vb)∈ao p q sch:=by unfold ao;simp
 have h1:(⟨1,0,0⟩:Vb)∈ao p q sch:=by unfold ao;simp
 have h2:(⟨2,0,0⟩:Vb)∈ao p q sch:=by unfold ao;simp
 have a0:=ha _ h0
 have a1:=ha _ h1
 have a2:=ha _ h2
 have e1:=qP hs (l:=⟨-1,1,0,0⟩) (by unfold ky;simp)
 have e2:=qP hs (l:=⟨0,1,-1,0⟩) (by unfold ky;simp)
 have e3:=qP hs (l:=⟨0,1,0,-1⟩) (by unfold ky;simp)
 have e4:p.fault=0->0<=ku ⟨0,0,-1,0⟩ (fR a)/\0<=ku ⟨0,0,0,-1⟩ (fR a):=fun hf=>⟨qP hs (by unfold ky;rw[if_pos hf];simp),qP hs (by unfold ky;rw[if_pos hf];simp)⟩
 have e5:∀l∈p.resilience,0<=ku l (fR a):=fun l hl=>qP hs (by unfold ky;exact List.mem_append_right _ hl)
 unfold ku fR at e1 e2 e3 e4
 dsimp only at e1 e2 e3 e4
 have hst:=lG hp hs
 have hev:=Iq (p:=p) (q:=q) (sch:=sch) (a:=a)
 have l3:=xD (a:=a) (kind:=3) (l:=cA p q) fun x hx=>ha _ (by
  unfold ao uF
  exact List.mem_append_left _ (List.mem_append_right _ (List.mem_append_left _ (List.mem_map.2 ⟨x,hx,rfl⟩))))
 have l4:lx p->((gR a 4 p.initial).length:Int)=a ⟨2,0,0⟩:=fun hw=>by
  rw[xD (a:=a) (kind:=4) (l:=p.initial) fun x hx=>ha _ (by
   unfold ao uF
   rw[if_pos hw]
   exact List.mem_append_left _ (List.mem_append_right _ (List.mem_append_right _ (List.mem_map.2 ⟨x,hx,rfl⟩)))),<-hev.2 hw,hst.2 hw]
 rw[<-hev.1,hst.1] at l3
 have hle:=eX (gZ hv)
 have hlen:((bw p q a).states.length:Int)=iy p (fR a):=by
  show(((gR a 3 (cA p q)++(if lx p then gR a 4 p.initial else[])).length:Nat):Int)=_
  rw[List.length_append]
  unfold iy fR
  dsimp only
  by_cases hw:lx p
  ·have:=l4 hw
   rw[if_pos hw,if_neg (by unfold lx at hw;omega)]
   omega
  ·rw[if_neg hw,List.length_nil]
   unfold lx at hw
   have hf:=(a9 hv).top
   by_cases h3:p.fault=3
   ·rw[if_pos h3];omega
   ·rw[if_neg h3]
    have:=e4 (by omega)
    omega
 have hz:(fR a).n<=8:=hn
 have hm8:iy p (fR a)<=8:=by unfold iy fR;dsimp only;split<;>omega
 refine⟨gZ hv,?_,hv,?_,?_,⟨?_,?_,?_,?_⟩,⟨hlen,?_,rfl,?_,?_,?_,?_,Int.le_refl _, .inl Int.one_pos,?_,?_⟩⟩
 ·unfold dA
  simp only[Bool.or_eq_false_iff,decide_eq_false_iff_not]
  have:(bw p q a).shape.length=0:=rfl
  have:(bw p q a).sent.length=p.messages.length:=List.length_replicate
  have:(bw p q a).faulty.length=p.messages.length:=List.length_replicate
  omega
 ·unfold Mu fR;dsimp only;omega
 ·unfold fR;dsimp only;omega
 ·unfold wT fR;dsimp only;omega
 ·unfold Be fR
  rintro⟨h,h3⟩
  have:=e4 h
  dsimp only at h3
  omega
 ·unfold EF
  rintro⟨h,_⟩
  have:=ht.1
  omega
 ·intro j hj
  exact e5 _ (aH ik hj)
 ·intro j hj
  have hm:=aH 0 hj
  have hm:(bw p q a).states.getD j 0∈gR a 3 (cA p q)++(if lx p then gR a 4 p.initial else[]):=hm
  rcases List.mem_append.1 hm with h|h
  ·exact Mz hp _ (r7 h)
  ·split at h
   ·exact tM hin.1 _ (r7 h)
   ·simp at h
 ·exact List.length_replicate
 ·intro j hj
  have hj:j<p.messages.length:=by simpa[bw] using hj
  show 0<=(List.replicate p.messages.length (0:Int)).getD j 0/\(List.replicate p.messages.length (0:Int)).getD j 0<1048577
  rw[gD,List.getElem?_replicate,if_pos hj]
  decide
 ·exact List.length_replicate
 ·intro j hj
  have hj:j<p.messages.length:=by simpa[bw] using hj
  show 0<=(List.replicate p.messages.length (0:Int)).getD j 0/\(List.replicate p.messages.length (0:Int)).getD j 0<Bh p+1
  rw[gD,List.getElem?_replicate,if_pos hj,Option.getD_some]
  unfold Bh
  split<;>omega
 ·intro h
  have:=ht.1
  omega
 ·intro _
  rfl
def nQ (l:List Int) (x:Int):Nat->Nat->Nat
 |0,_=>0
 |n+1,i=>(if l.getD i 0=x then 1 else 0)+nQ l x n (i+1)
theorem Ir {l:List Int} {x:Int}:∀{n i:Nat},0<nQ l x n i->∃k:Nat,mT l x n i=k/\i<=k/\k<i+n/\l.getD k 0=x
 |0,i,h=>by simp[nQ] at h
 |n+1,i,h=>by
  unfold mT
  by_cases e:l.getD i 0=x
  ·rw[if_pos e];exact⟨i,rfl,Nat.le_refl _,by omega,e⟩
  ·rw[if_neg e]
   unfold nQ at h
   rw[if_neg e,Nat.zero_add] at h
   obtain⟨k,h1,h2,h3,h4⟩:=Ir h
   exact⟨k,h1,by omega,by omega,h4⟩
theorem MK {l:List Int} {x:Int}:∀{n i:Nat},nQ l x n i=0->mT l x n i=-1
 |0,i,h=>rfl
 |n+1,i,h=>by
  unfold nQ at h
  unfold mT
  by_cases e:l.getD i 0=x
  ·rw[if_pos e] at h;omega
  ·rw[if_neg e] at h⊢
   exact MK (by omega)
theorem getD_set_ne {l:List Int} {k j:Nat} (d:Int) (h:k≠j):(l.set k d).getD j 0=l.getD j 0:=by
 rw[gD,gD,List.getElem?_set_ne h]
theorem mU {l:List Int} {k:Nat} (d:Int) (h:k<l.length):(l.set k d).getD k 0=d:=by
 rw[gD,List.getElem?_set_self h,Option.getD_some]
theorem r8 {l:List Int} {k:Nat} (d y:Int):∀{n i:Nat},(k<i\/i+n<=k)->nQ (l.set k d) y n i=nQ l y n i
 |0,i,h=>rfl
 |n+1,i,h=>by
  unfold nQ
  rw[getD_set_ne d (by omega),r8 d y (n:=n) (i:=i+1) (by omega)]
theorem BQ {l:List Int} {k:Nat} (hl:k<l.length) (d y:Int):∀{n i:Nat},i<=k->k<i+n->nQ (l.set k d) y n i+(if l.getD k 0=y then 1 else 0)=nQ l y n i+(if d=y then 1 else 0)
 |0,i,h1,h2=>by omega
 |n+1,i,h1,h2=>by
  unfold nQ
  by_cases e:i=k
  ·subst e
   rw[mU d hl,r8 d y (by omega)]
   omega
  ·rw[getD_set_ne d (Ne.symm e)]
   have:=BQ hl d y (n:=n) (i:=i+1) (by omega) (by omega)
   omega
theorem ua {p:ap} {s:aN} {c:aD} (h:fp p s c):dV p s=0:=by
 have:=h.sz
 unfold dV
 rw[if_neg (fun y=>y h.val),if_neg (fun y=>y h.adm),if_neg (by omega)]
theorem BR {p:ap} {s:aN} {c:aD} (h:fp p s c):du p s c=0:=by
 unfold du
 rw[if_neg (fun y=>y (ua h)),wU,if_pos h.vc]
theorem Ly {p:ap} {s:aN} {c:aD} (h:fp p s c) (ht:io p) {ri i:Int} (hr:0<=ri/\ri<p.rules.length) (hi:0<=i/\i<c.states.length)
  (hs:c.states.getD i.toNat 0=(p.rules.getD ri.toNat au).src) (hg:qE p s c (p.rules.getD ri.toNat au) false) (hb:qe c (p.rules.getD ri.toNat au) ⟨ri,i,-1⟩):kG p s c ⟨ri,i,-1⟩=0:=by
 have hR:=dK h.val (i:=ri.toNat) (by omega)
 have hrd:=hR.read
 have hv:=ht.2.1
 obtain⟨k1,k2,k3,k4⟩:=ht.2.2 ri.toNat (by omega)
 have he:qc p s c ⟨ri,i,-1⟩ false:=by
  refine⟨⟨hr,hi⟩,hs, .inl ?_,?_⟩
  ·show(p.rules.getD ri.toNat au).read=-1
   omega
  ·show Bn p s c (p.rules.getD ri.toNat au) ⟨ri,i,-1⟩ false
   unfold Bn
   rw[if_neg (by omega),if_pos k1]
   exact⟨rfl,hg, .inl k3, .inl k4⟩
 unfold kG
 rw[if_neg (fun y=>y (BR h)),if_neg (fun y=>y he),if_neg (fun y=>y hb)]
theorem bump_get:∀(ms l:List Int) (j:Nat),ms.Nodup->(∀m∈ms,0<=m/\m<l.length)->(bP l ms).getD j 0=l.getD j 0+if(j:Int)∈ms then 1 else 0
 |[],l,j,_,_=>by simp[bP]
 |m::ms,l,j,hn,h=>by
  obtain⟨hm,hn⟩:=List.nodup_cons.1 hn
  have h0:=h m List.mem_cons_self
  rw[bP,bump_get ms _ j hn (fun x hx=>by rw[List.length_set];exact h x (List.mem_cons_of_mem _ hx))]
  by_cases e:m.toNat=j
  ·subst e
   have e2:((m.toNat:Nat):Int)=m:=Int.toNat_of_nonneg h0.1
   rw[mU _ (by omega),e2,if_neg hm,if_pos List.mem_cons_self]
   omega
  ·rw[getD_set_ne _ e]
   have e2:(j:Int)≠m:=fun h2=>e (by omega)
   simp[e2]
theorem It {l ms:List Int} (hl:∀j,0<=l.getD j 0/\l.getD j 0<=1000000) (hm:ms.length<=60):Lu l ms:=by
 intro k hk
 have:=r5 (ms.take (k+1)) l 1000000 hl (ms.getD k 0).toNat
 have:(ms.take (k+1)).length<=60:=by rw[List.length_take];omega
 omega
def BS (K:Nat):Bool->Nat
 |false=>0
 |true=>K
def Fa (K L:Nat):Bool->Nat
 |false=>K
 |true=>L
def Dl (l:List Int) (K L:Nat) (f:Bool) (y:Int):Nat:=nQ l y (Fa K L f-BS K f) (BS K f)
theorem qQ {c:aD} {r:bE} {x:bX} (hk:r.kind=1) (hi:0<=x.process/\x.process<c.states.length):(fQ c r x).states=c.states.set x.process.toNat r.dst:=
 (Ia (by simp) fun j hj=>by
  rw[dU]
  unfold ON
  by_cases e:x.process.toNat=j
  ·rw[if_pos ⟨e,by omega⟩,if_pos (by omega)]
  ·rw[if_neg (fun h=>e h.1),if_neg (by omega),if_neg (by omega),if_neg (by omega)]).symm
theorem Iu {l:List Int} {K L:Nat} {f:Bool} {k:Nat} (d y:Int) (hL:L=l.length) (hK:K<=L) (h1:BS K f<=k) (h2:k<Fa K L f):
  Dl (l.set k d) K L f y+(if l.getD k 0=y then 1 else 0)=Dl l K L f y+(if d=y then 1 else 0)/\Dl (l.set k d) K L (!f) y=Dl l K L (!f) y:=by
 unfold Dl
 cases f
 ·simp only[BS,Fa,Bool.not_false] at*
  exact⟨BQ (by omega) d y (by omega) (by omega),r8 d y (by omega)⟩
 ·simp only[BS,Fa,Bool.not_true] at*
  exact⟨BQ (by omega) d y (by omega) (by omega),r8 d y (by omega)⟩
theorem Iv {p:ap} {s:aN} {c:aD} {r r':bE} {x:bX} (hc:∀g∈r.guards,1<=g.coef) (h:qE p s c r false):qE p s (fQ c r' x) r false:=by
 intro j hj
 have h1:=h j hj
 have h2:=hc _ (aH aW hj)
 unfold w4 at h1⊢
 exact Int.le_trans h1 (Int.mul_le_mul_of_nonneg_left (zB p s c r' x _) (by omega))
structure OW (p:ap) (s:aN) (r:bE) (f:Bool) (n:Nat) (c d:aD):Prop where
 rdy:fp p s d
 cor:d.correct=c.correct
 len:d.states.length=c.states.length
 occ:∀y,Dl d.states c.correct.toNat c.states.length f y+(if r.src=y then n else 0)=Dl c.states c.correct.toNat c.states.length f y+(if r.dst=y then n else 0)
 oth:∀y,Dl d.states c.correct.toNat c.states.length (!f) y=Dl c.states c.correct.toNat c.states.length (!f) y
 sen:∀j:Nat,d.sent.getD j 0=c.sent.getD j 0+if f=false/\(j:Int)∈r.send then(n:Int) else 0
 fau:∀j:Nat,d.faulty.getD j 0=c.faulty.getD j 0+if f=true/\(j:Int)∈r.send then(n:Int) else 0
theorem zF {p:ap} {s:aN} (ht:io p) {ri:Int} (hr:0<=ri/\ri<p.rules.length) (hsd:(p.rules.getD ri.toNat au).send.Nodup) (hgc:∀g∈(p.rules.getD ri.toNat au).guards,1<=g.coef) (f:Bool):
  ∀(n:Nat) (c:aD) (xs:List bX),fp p s c->0<=c.correct->c.correct.toNat<=c.states.length->n<=Dl c.states c.correct.toNat c.states.length f (b9 p ri)->qE p s c (p.rules.getD ri.toNat au) false->
  (∀j,0<=c.sent.getD j 0/\c.sent.getD j 0+n<=1000000)->(∀j,0<=c.faulty.getD j 0/\c.faulty.getD j 0+n<=1000000)->
  ∃d ys,dY p s ri (BS c.correct.toNat f) (Fa c.correct.toNat c.states.length f) n c xs=(d,xs++ys,0)/\ys.length=n/\OW p s (p.rules.getD ri.toNat au) f n c d
 |0,c,xs,h,_,_,_,_,_,_=>⟨c,[],by rw[List.append_nil];rfl,rfl,⟨h,rfl,rfl,fun y=>by simp,fun y=>rfl,fun j=>by simp,fun j=>by simp⟩⟩
 |n+1,c,xs,h,hc0,hK,hn,hg,hs1,hs2=>by
  obtain⟨k,hk,k1,k2,k3⟩:=Ir (l:=c.states) (x:=b9 p ri) (n:=Fa c.correct.toNat c.states.length f-BS c.correct.toNat f) (i:=BS c.correct.toNat f) (by unfold Dl at hn;omega)
  have hhi:Fa c.correct.toNat c.states.length f<=c.states.length:=by cases f<;>simp only[Fa]<;>omega
  have hlo:BS c.correct.toNat f<=Fa c.correct.toNat c.states.length f:=by cases f<;>simp only[Fa,BS]<;>omega
  have hkl:k<c.states.length:=by omega
  have hR:=dK h.val (i:=ri.toNat) (by omega)
  have hB:=jM (i6 h.big (j:=ri.toNat) (by omega))
  have hse:=hR.send
  have hri:=ht.2.2 ri.toNat (by omega)
  have hsn:=h.vc.snl
  have hfa:=h.vc.fal
  obtain⟨r,er⟩:∃r,r=p.rules.getD ri.toNat au:=⟨_,rfl⟩
  have hin:∀(l:List Int),l.length=p.messages.length->∀m∈r.send,0<=m/\m<l.length:=fun l hl m hm=>by
   rw[er] at hm
   obtain⟨i,hi,e⟩:=List.getElem_of_mem hm
   have:=hse i hi
   rw[am 0 hi,e] at this
   omega
  have hap:qe c (p.rules.getD ri.toNat au) ⟨ri,k,-1⟩:=by
   unfold qe
   split
   ·exact It (fun j=>⟨(hs1 j).1,by have:=(hs1 j).2;omega⟩) (by omega)
   ·exact It (fun j=>⟨(hs2 j).1,by have:=(hs2 j).2;omega⟩) (by omega)
  have e0:kG p s c ⟨ri,k,-1⟩=0:=Ly h ht hr ⟨by omega,by omega⟩ (by rw[tN];exact k3) hg hap
  have hrd:=r6 h e0
  have est:(fQ c (p.rules.getD ri.toNat au) ⟨ri,k,-1⟩).states=c.states.set k r.dst:=by
   have:=qQ (c:=c) (r:=p.rules.getD ri.toNat au) (x:=⟨ri,k,-1⟩) hri.1 ⟨by dsimp only;omega,by dsimp only;omega⟩
   rw[this,er]
   dsimp only
   rw[tN]
  have elen:(fQ c (p.rules.getD ri.toNat au) ⟨ri,k,-1⟩).states.length=c.states.length:=iU _ _ _
  have ecor:(fQ c (p.rules.getD ri.toNat au) ⟨ri,k,-1⟩).correct=c.correct:=rfl
  have esen:∀j:Nat,(fQ c (p.rules.getD ri.toNat au) ⟨ri,k,-1⟩).sent.getD j 0=c.sent.getD j 0+if f=false/\(j:Int)∈r.send then 1 else 0:=fun j=>by
   show(if(k:Int)<c.correct then bP c.sent (p.rules.getD ri.toNat au).send else c.sent).getD j 0=_
   rw[er]
   cases f
   ·simp only[Fa] at k2 hlo hhi
    simp only[BS] at k2 k1
    rw[if_pos (by omega),bump_get _ _ j hsd (by rw[<-er];exact hin _ hsn)]
    simp
   ·simp only[BS] at k1
    rw[if_neg (by omega)]
    simp
  have efau:∀j:Nat,(fQ c (p.rules.getD ri.toNat au) ⟨ri,k,-1⟩).faulty.getD j 0=c.faulty.getD j 0+if f=true/\(j:Int)∈r.send then 1 else 0:=fun j=>by
   show(if(k:Int)<c.correct then c.faulty else bP c.faulty (p.rules.getD ri.toNat au).send).getD j 0=_
   rw[er]
   cases f
   ·simp only[Fa] at k2 hlo hhi
    simp only[BS] at k2 k1
    rw[if_pos (by omega)]
    simp
   ·simp only[BS] at k1
    rw[if_neg (by omega),bump_get _ _ j hsd (by rw[<-er];exact hin _ hfa)]
    simp
  have hmv:=fun y=>Iu (l:=c.states) (K:=c.correct.toNat) (L:=c.states.length) (f:=f) (k:=k) r.dst y rfl hK k1 (by omega)
  have hg1:=Iv (p:=p) (s:=s) (c:=c) (r':=p.rules.getD ri.toNat au) (x:=⟨ri,k,-1⟩) hgc hg
  have hk3:c.states.getD k 0=r.src:=by rw[er];exact k3
  have hsrc:b9 p ri=r.src:=by rw[er];rfl
  rw[<-er] at hri
  obtain⟨d,ys,h1,h2,h3⟩:=zF ht hr hsd hgc f n _ (xs++[⟨ri,k,-1⟩]) hrd hc0 (by rw[elen];exact hK) (by
   rw[elen,est,ecor,hsrc]
   have:=(hmv r.src).1
   rw[hk3,if_pos rfl,if_neg (by have:=hri.2.1;omega)] at this
   rw[hsrc] at hn
   omega) hg1 (fun j=>by rw[esen];have:=hs1 j;split<;>omega) (fun j=>by rw[efau];have:=hs2 j;split<;>omega)
  rw[elen,ecor] at h1
  refine⟨d,⟨ri,k,-1⟩::ys,?_,by rw[List.length_cons,h2],⟨h3.rdy,h3.cor,h3.len.trans elen,fun y=>?_,fun y=>?_,fun j=>?_,fun j=>?_⟩⟩
  ·unfold dY
   rw[hk,if_neg (by omega),if_neg (fun y=>y e0),h1,List.append_assoc]
   rfl
  ·have a:=h3.occ y
   have b:=(hmv y).1
   rw[elen,est,ecor,<-er] at a
   rw[hk3] at b
   rw[<-er]
   (repeat' split at a)<;>(repeat' split at b)<;>(repeat' split)<;>omega
  ·have a:=h3.oth y
   rw[elen,est,ecor] at a
   rw[a,(hmv y).2]
  ·have a:=h3.sen j
   rw[esen,<-er] at a
   rw[a,<-er]
   (repeat' split)<;>omega
  ·have a:=h3.fau j
   rw[efau,<-er] at a
   rw[a,<-er]
   (repeat' split)<;>omega
noncomputable def iJ (vars:List Vb) (x:List Int) (kind seg idx:Int):Int:=
 match mL vars kind vars.length (seg,idx) with
 |some m=>x.getD m.toNat 0
 |none=>0
theorem ub {vars:List Vb} {x:List Int} {kind seg idx m:Int} (h:mL vars kind vars.length (seg,idx)=some m):iJ vars x kind seg idx=x.getD m.toNat 0:=by
 unfold iJ;rw[h]
theorem uc {vars:List Vb} {x:List Int} {kind seg idx:Int} (h:mL vars kind vars.length (seg,idx)=none):iJ vars x kind seg idx=0:=by
 unfold iJ;rw[h]
theorem zG {vars:List Vb} (hn:vars.Nodup) (x:List Int) {m:Nat} (hm:m<vars.length):j0 vars x (vars.getD m im)=x.getD m 0:=by
 unfold j0
 rw[am im hm,hn.idxOf_getElem m hm]
theorem lH {vars:List Vb} (hn:vars.Nodup) (x:List Int) (kind seg idx:Int):iJ vars x kind seg idx=if(⟨kind,seg,idx⟩:Vb)∈vars then j0 vars x ⟨kind,seg,idx⟩ else 0:=by
 cases h:mL vars kind vars.length (seg,idx) with
 |none=>rw[uc h,if_neg (vB h)]
 |some m=>
  obtain⟨k,rfl,hk,e⟩:=kx h
  rw[ub h,<-e,if_pos (aH im hk),zG hn x hk,tN]
noncomputable def pQ (vars:List Vb) (x:List Int) (kind:Int) (n:Nat):List Int:=(List.range n).flatMap fun y:Nat=>List.replicate (iJ vars x kind 0 y).toNat (y:Int)
theorem Iw (vars:List Vb) (x:List Int) (kind:Int) (n:Nat):pQ vars x kind (n+1)=pQ vars x kind n++List.replicate (iJ vars x kind 0 n).toNat (n:Int):=by
 unfold pQ
 rw[List.range_succ,List.flatMap_append]
 simp
theorem OX {l:List Int} (h:l.Pairwise (·<·)) (n:Nat):l.filter (fun y=>decide (y<((n+1:Nat):Int)))=l.filter (fun y=>decide (y<(n:Int)))++if(n:Int)∈l then[(n:Int)] else[]:=by
 induction l with
 |nil=>simp
 |cons y l ih=>
  obtain⟨h1,h2⟩:=List.pairwise_cons.1 h
  have ih:=ih h2
  rcases Int.lt_trichotomy y (n:Int) with e|e|e
  ·rw[List.filter_cons_of_pos (by simp;omega),List.filter_cons_of_pos (by simp;omega),ih,List.cons_append]
   have:((n:Int)∈y::l)↔(n:Int)∈l:=by
    rw[List.mem_cons]
    exact⟨fun h=>h.resolve_left (by omega), .inr⟩
   simp only[this]
  ·subst e
   have hno:∀m:Int,m<=(n:Int)+1->l.filter (fun y=>decide (y<m))=[]:=fun m hm=>by
    rw[List.filter_eq_nil_iff]
    intro z hz
    have:=h1 z hz
    simp only[decide_eq_true_eq]
    omega
   rw[List.filter_cons_of_pos (by simp;omega),List.filter_cons_of_neg (by simp),hno _ (by omega),hno _ (by omega),if_pos List.mem_cons_self]
   rfl
  ·have hno:∀m:Int,m<=(n:Int)+1->(y::l).filter (fun y=>decide (y<m))=[]:=fun m hm=>by
    rw[List.filter_eq_nil_iff]
    intro z hz
    have:y<=z:=by
     rcases List.mem_cons.1 hz with rfl|hz
     ·exact Int.le_refl _
     ·have:=h1 z hz;omega
    simp only[decide_eq_true_eq]
    omega
   rw[hno _ (by omega),hno _ (by omega),if_neg,List.append_nil]
   intro hm
   rcases List.mem_cons.1 hm with e2|hm
   ·omega
   ·have:=h1 _ hm;omega
theorem rB {l:List Int} (h:l.Pairwise (·<·)) (h0:∀y∈l,0<=y) (f:Int->List Int):∀n:Nat,(List.range n).flatMap (fun y:Nat=>if(y:Int)∈l then f y else[])=(l.filter fun y=>decide (y<(n:Int))).flatMap f
 |0=>by
  rw[(List.filter_eq_nil_iff).2 (fun y hy=>by have:=h0 y hy;simp only[decide_eq_true_eq];omega)]
  rfl
 |n+1=>by
  rw[List.range_succ,List.flatMap_append,rB h h0 f n,OX h,List.flatMap_append]
  congr 1
  by_cases e:(n:Int)∈l
  ·simp[e]
  ·simp[e]
theorem lJ {l:List Int} {n:Int} (h:cE l n=0):l.Pairwise (·<·):=by
 obtain⟨_,h2⟩:=pr h
 have key:∀(k i:Nat),i<k->k<l.length->l.getD i 0<l.getD k 0:=by
  intro k
  induction k with
  |zero=>intro i hi;omega
  |succ k ih=>
   intro i hi hk
   have h1:=h2 (k+1) hk (by omega)
   rw[Nat.add_sub_cancel] at h1
   by_cases e:i=k
   ·subst e;exact h1
   ·have:=ih i (by omega) (by omega);omega
 rw[List.pairwise_iff_getElem]
 intro i j hi hj hij
 have:=key j i hij hj
 rwa [am 0 hi,am 0 hj] at this
theorem nu {p:ap} {q:aJ} {sch:List Int} {x:Int}:(⟨3,0,x⟩:Vb)∈ao p q sch↔x∈cA p q:=by
 unfold ao uF
 simp only[List.mem_append]
 constructor
 ·rintro((h|h|h)|h)
  ·simp only[List.mem_cons,List.not_mem_nil,or_false] at h
   rcases h with h|h|h<;>(have:=congrArg Vb.kind h;dsimp only at this;omega)
  ·obtain⟨y,hy,e⟩:=List.mem_map.1 h
   have:=congrArg Vb.idx e
   dsimp only at this
   subst this
   exact hy
  ·split at h
   ·obtain⟨y,hy,e⟩:=List.mem_map.1 h
    have:=congrArg Vb.kind e;dsimp only at this;omega
   ·cases h
  ·obtain⟨j,_,h⟩:=List.mem_flatMap.1 h
   obtain⟨r,_,h⟩:=eJ h
   have:=(fC h).1
   dsimp only at this;omega
 ·intro h
  exact .inl (.inr (.inl (List.mem_map.2 ⟨x,h,rfl⟩)))
theorem pR {p:ap} {q:aJ} {sch:List Int} {x:Int}:(⟨4,0,x⟩:Vb)∈ao p q sch↔lx p/\x∈p.initial:=by
 unfold ao uF
 simp only[List.mem_append]
 constructor
 ·rintro((h|h|h)|h)
  ·simp only[List.mem_cons,List.not_mem_nil,or_false] at h
   rcases h with h|h|h<;>(have:=congrArg Vb.kind h;dsimp only at this;omega)
  ·obtain⟨y,hy,e⟩:=List.mem_map.1 h
   have:=congrArg Vb.kind e;dsimp only at this;omega
  ·split at h
   ·rename_i hw
    obtain⟨y,hy,e⟩:=List.mem_map.1 h
    have:=congrArg Vb.idx e
    dsimp only at this
    subst this
    exact⟨hw,hy⟩
   ·cases h
  ·obtain⟨j,_,h⟩:=List.mem_flatMap.1 h
   obtain⟨r,_,h⟩:=eJ h
   have:=(fC h).1
   dsimp only at this;omega
 ·rintro⟨hw,h⟩
  exact .inl (.inr (.inr (by rw[if_pos hw];exact List.mem_map.2 ⟨x,h,rfl⟩)))
theorem xE {l:List Int} {n:Int} (h:cE l n=0):∀y∈l,0<=y/\y<n:=fun y hy=>tM h y hy
theorem Lz {p:ap} {q:aJ} (hp:bF p q=0) {sch:List Int} (x:List Int):
  pQ (ao p q sch) x 3 p.states.length++pQ (ao p q sch) x 4 p.states.length=(bw p q (j0 (ao p q sch) x)).states:=by
 have hn:=cL hp sch
 have hv:=a9 (bf hp).vld
 have hst:(cA p q).Pairwise (·<·)/\∀y∈cA p q,0<=y/\y<p.states.length:=by
  unfold cA
  split
  ·exact⟨lJ (bf hp).start,xE (bf hp).start⟩
  ·exact⟨lJ hv.ini.1,xE hv.ini.1⟩
 have hin:=lJ hv.ini.1
 have hin2:=xE hv.ini.1
 have key:∀(l:List Int) (kind:Int),l.Pairwise (·<·)->(∀y∈l,0<=y/\y<p.states.length)->(∀y:Int,(⟨kind,0,y⟩:Vb)∈ao p q sch↔y∈l)->pQ (ao p q sch) x kind p.states.length=gR (j0 (ao p q sch) x) kind l:=by
  intro l kind h1 h2 h3
  have e:∀y:Nat,List.replicate (iJ (ao p q sch) x kind 0 y).toNat (y:Int)=if(y:Int)∈l then List.replicate (j0 (ao p q sch) x ⟨kind,0,y⟩).toNat (y:Int) else[]:=fun y=>by
   rw[lH hn]
   by_cases hy:(y:Int)∈l
   ·rw[if_pos ((h3 y).2 hy),if_pos hy]
   ·rw[if_neg (fun h=>hy ((h3 y).1 h)),if_neg hy];rfl
  unfold pQ gR
  simp only[e]
  rw[rB h1 (fun y hy=>(h2 y hy).1) (fun y=>List.replicate (j0 (ao p q sch) x ⟨kind,0,y⟩).toNat y)]
  rw[List.filter_eq_self.2 (fun y hy=>by simpa using (h2 y hy).2)]
 have k3:=key (cA p q) 3 hst.1 hst.2 (fun y=>nu)
 show _=gR _ 3 (cA p q)++(if lx p then gR _ 4 p.initial else[])
 rw[k3]
 congr 1
 by_cases hw:lx p
 ·rw[if_pos hw]
  exact key p.initial 4 hin hin2 fun y=>pR.trans (and_iff_right hw)
 ·rw[if_neg hw]
  exact key [] 4 List.Pairwise.nil (fun y hy=>by cases hy) fun y=>pR.trans (by simp[hw])
def kH (ord:List Int):Nat->Nat->List (Nat×Int)
 |0,_=>[]
 |n+1,j=>ord.map (fun r=>(j,r))++kH ord n (j+1)
noncomputable def kI (p:ap) (s:aN) (t5 t6:Nat->Int->Int):List (Nat×Int)->aD->List bX->aD×List bX×Int
 |[],c,xs=>(c,xs,0)
 |y::L,c,xs=>if(gu p s c y.2 (t5 y.1 y.2).toNat (t6 y.1 y.2).toNat).2.2≠0 then(cf,[],(gu p s c y.2 (t5 y.1 y.2).toNat (t6 y.1 y.2).toNat).2.2)
  else kI p s t5 t6 L (gu p s c y.2 (t5 y.1 y.2).toNat (t6 y.1 y.2).toNat).1 (xs++(gu p s c y.2 (t5 y.1 y.2).toNat (t6 y.1 y.2).toNat).2.1)
theorem kJ (p:ap) (s:aN) (t5 t6:Nat->Int->Int) (j:Nat) (r:Int) (L:List (Nat×Int)) (c:aD) (xs:List bX):kI p s t5 t6 ((j,r)::L) c xs=if(gu p s c r (t5 j r).toNat (t6 j r).toNat).2.2≠0 then(cf,[],(gu p s c r (t5 j r).toNat (t6 j r).toNat).2.2)
  else kI p s t5 t6 L (gu p s c r (t5 j r).toNat (t6 j r).toNat).1 (xs++(gu p s c r (t5 j r).toNat (t6 j r).toNat).2.1):=rfl
theorem r9 {p:ap} {r:Int} (h:r∈iR p.rules p.states.length):0<=r/\r<p.rules.length:=by
 unfold iR at h
 obtain⟨x,_,h⟩:=List.mem_flatMap.1 h
 obtain⟨k,hk,rfl⟩:=List.mem_map.1 h
 have:=List.mem_range.1 (List.mem_filter.1 hk).1
 omega
theorem Ix {p:ap} (hv:aL p=0):(iR p.rules p.states.length).length<=48:=by
 have:=HI p.rules p.states.length
 rw[HG] at this
 have w:=(a9 hv).len
 have:p.rules.length*p.states.length<=8*6:=Nat.mul_le_mul w.2.2.2.2.2 w.2.1
 omega
section
variable (p:ap) (q:aJ) (sch:List Int) (x:List Int)
noncomputable abbrev zH:Nat->Int->Int:=fun j r=>iJ (ao p q sch) x 5 j r
noncomputable abbrev zI:Nat->Int->Int:=fun j r=>iJ (ao p q sch) x 6 j r
noncomputable def xF:aD×List bX×Int:=kI p (fR (j0 (ao p q sch) x)) (zH p q sch x) (zI p q sch x) (kH (iR p.rules p.states.length) (sch.length+1) 0) (bw p q (j0 (ao p q sch) x)) []
noncomputable def rI (number:Int):Int:=
 if dL p q≠0 then dL p q else if¬dM (aA p.rules).length sch\/number< -1\/(w6 p q:Int)<=number then 1
 else if¬pB (jn p q sch number) x then 1 else if 8<x.getD 0 0 then 4 else(xF p q sch x).2.2
noncomputable def zJ (number:Int):AV:=
 if rI p q sch x number≠0 then .tup [.agg [.int .i64 0, .int .i64 0, .int .i64 0], .agg (j6++[.nilsl]), .int .i64 (rI p q sch x number)]
 else .tup [.agg (gr (fR (j0 (ao p q sch) x))), .agg (cy (bw p q (j0 (ao p q sch) x))++[.sl qO iA (xF p q sch x).2.1]), .int .i64 0]
end
structure OY (p:ap) (q:aJ) (sch:List Int) (x:List Int) (number:Int):Prop where
 prp:bF p q=0
 thr:io p
 scm:dM (aA p.rules).length sch
 len:x.length=(ao p q sch).length
 rdy:fp p (fR (j0 (ao p q sch) x)) (bw p q (j0 (ao p q sch) x))
 siz:fR (j0 (ao p q sch) x)=⟨x.getD 0 0,x.getD 1 0,x.getD 2 0⟩
 five:∀(j:Nat) (r:Int),r∈iR p.rules p.states.length->0<=iJ (ao p q sch) x 5 j r/\iJ (ao p q sch) x 5 j r<=8
 six:∀(j:Nat) (r:Int),r∈iR p.rules p.states.length->0<=iJ (ao p q sch) x 6 j r/\iJ (ao p q sch) x 6 j r<=8
 pnt:∀m,m<x.length->0<=x.getD m 0/\x.getD m 0<=1048576
theorem sa {p:ap} {q:aJ} {sch x:List Int} {number:Int} (h:pB (jn p q sch number) x):x.length=(ao p q sch).length:=by
 have:=h.2.1
 unfold jn at this
 dsimp only at this
 omega
theorem Iy {p:ap} {q:aJ} {sch x:List Int} {number:Int} (hc:dL p q=0) (hs:dM (aA p.rules).length sch) (h:pB (jn p q sch number) x) (h8:¬8<x.getD 0 0):OY p q sch x number:=by
 have hp:=eM hc
 have ht:=(CZ hc).1
 have hn:=cL hp sch
 have hl:=sa h
 have hm:=Ho hn hl
 have hsat:=h
 rw[<-hm] at hsat
 obtain⟨h1,h2⟩:=(Hp hp hs).1 hsat
 have ha:∀v∈ao p q sch,0<=j0 (ao p q sch) x v:=fun v hv=>(h1 v hv).1
 have hv3:3<=(ao p q sch).length:=by unfold ao;simp only[List.length_append,List.length_cons,List.length_nil];omega
 have e0:j0 (ao p q sch) x ⟨0,0,0⟩=x.getD 0 0:=zG hn x (m:=0) (by omega)
 have e1:j0 (ao p q sch) x ⟨1,0,0⟩=x.getD 1 0:=zG hn x (m:=1) (by omega)
 have e2:j0 (ao p q sch) x ⟨2,0,0⟩=x.getD 2 0:=zG hn x (m:=2) (by omega)
 have hr:∀j,j<p.rules.length->0<=(p.rules.getD j au).src/\(p.rules.getD j au).src<p.states.length:=fun j hj=>by
  have:=rV (bf hp).vld j hj
  rwa [xi] at this
 have hf:=fun(j r:Nat)=>Ip hp ht hr ha h2 (j:=j) (r:=r)
 have hN:=ha ⟨0,0,0⟩ (by unfold ao;simp)
 have hF:=ha ⟨2,0,0⟩ (by unfold ao;simp)
 have rd:=OV hp ht ha h2 (by omega)
 have hfn:j0 (ao p q sch) x ⟨2,0,0⟩<=j0 (ao p q sch) x ⟨0,0,0⟩:=by
  have:=(lG hp h2).1
  have:=rd.sz
  unfold fR at this
  dsimp only at this
  omega
 refine⟨hp,ht,hs,hl,rd,by unfold fR;rw[e0,e1,e2],fun j r hr=>?_,fun j r hr=>?_,fun m hm=>?_⟩
 ·obtain⟨a,b⟩:=r9 hr
  obtain⟨k,rfl⟩:∃k:Nat,r=k:=⟨r.toNat,by omega⟩
  rw[lH hn]
  by_cases e:(⟨5,j,k⟩:Vb)∈ao p q sch
  ·rw[if_pos e]
   have:=(hf j k).1 e
   have:=ha _ e
   omega
  ·rw[if_neg e];omega
 ·obtain⟨a,b⟩:=r9 hr
  obtain⟨k,rfl⟩:∃k:Nat,r=k:=⟨r.toNat,by omega⟩
  rw[lH hn]
  by_cases e:(⟨6,j,k⟩:Vb)∈ao p q sch
  ·rw[if_pos e]
   have:=(hf j k).2 e
   have:=ha _ e
   omega
  ·rw[if_neg e];omega
 ·exact h.2.2.1 m hm
end
end Go.Proofs.YtekmminpfhacpaaGreatDoor
