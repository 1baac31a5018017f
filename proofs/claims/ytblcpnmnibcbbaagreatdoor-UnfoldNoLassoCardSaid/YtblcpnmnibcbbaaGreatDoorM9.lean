import Derived.Test.YtblcpnmnibcbbaaGreatDoorA1
import Derived.Test.YtblcpnmnibcbbaaGreatDoorM8
set_option linter.unusedVariables false
set_option linter.unusedSimpArgs false
namespace Go.Proofs.YtblcpnmnibcbbaaGreatDoor
set_option maxRecDepth 100000
set_option maxHeartbeats 16000000
def rV (a b j:Nat):Nat:=if j=a then b else if j=b then a else j
def lQ (a b:Nat) (i:Int):Int:=if i=a then b else if i=b then a else i
def k9 (l:List Int) (a b:Nat):List Int:=(l.set a (l.getD b 0)).set b (l.getD a 0)
def jY (c:ap) (a b:Nat):ap:=⟨c.shape,k9 c.states a b,c.correct,c.sent,c.faulty,c.value⟩
def tc (x:be) (a b:Nat):be:=⟨x.rule,lQ a b x.process,lQ a b x.partner⟩
theorem eL (l:List Int) (a b:Nat):(k9 l a b).length=l.length:=by simp[k9]
theorem fT {l:List Int} {a b:Nat} (ha:a<l.length) (hb:b<l.length) (j:Nat):(k9 l a b).getD j 0=l.getD (rV a b j) 0:=by
 unfold k9 rV
 rw[ax,ax,List.length_set]
 by_cases h1:b=j
 ·rw[if_pos ⟨h1,hb⟩]
  by_cases h2:j=a
  ·rw[if_pos h2]
   have:a=b:=by omega
   rw[this]
  ·rw[if_neg h2,if_pos h1.symm]
 ·rw[if_neg (fun h=>h1 h.1)]
  by_cases h2:a=j
  ·rw[if_pos ⟨h2,ha⟩,if_pos h2.symm]
  ·rw[if_neg (fun h=>h2 h.1),if_neg (fun h=>h2 h.symm),if_neg (fun h=>h1 h.symm)]
theorem mH (a b j:Nat):rV a b (rV a b j)=j:=by
 unfold rV
 (repeat' split)<;>omega
theorem nD {a b n j:Nat} (ha:a<n) (hb:b<n) (h:j<n):rV a b j<n:=by
 unfold rV
 (repeat' split)<;>omega
theorem iv (a b j:Nat) (i:Int):((j:Int)=lQ a b i)↔((rV a b j:Nat):Int)=i:=by
 unfold lQ rV
 (repeat' split)<;>omega
theorem Ca {a b:Nat} {n i:Int} (ha:(a:Int)<n) (hb:(b:Int)<n):(lQ a b i<n↔i<n)/\(0<=lQ a b i↔0<=i)/\(lQ a b i=-1↔i=-1):=by
 unfold lQ
 (repeat' split)<;>omega
theorem zy {a b:Nat} {i:Int} (h:0<=i):rV a b (lQ a b i).toNat=i.toNat:=by
 unfold lQ rV
 (repeat' split)<;>omega
theorem Ep {a b:Nat} {i j:Int}:lQ a b i=lQ a b j↔i=j:=by
 unfold lQ
 (repeat' split)<;>omega
theorem Cb {c:ap} {a b:Nat} (ha:a<c.states.length) (hb:b<c.states.length) {i:Int} (h:0<=i):(jY c a b).states.getD (lQ a b i).toNat 0=c.states.getD i.toNat 0:=by
 show(k9 c.states a b).getD _ 0=_
 rw[fT ha hb,zy h]
theorem HO {c:ap} {a b:Nat} (ha:a<c.states.length) (hb:b<c.states.length) (l:List Int) (i:Int):xM (jY c a b) l (lQ a b i) (jY c a b).states.length↔xM c l i c.states.length:=by
 have e:(jY c a b).states.length=c.states.length:=eL _ _ _
 unfold xM
 rw[e]
 constructor
 ·rintro(h|⟨j,h1,h2,h3⟩)
  ·exact .inl h
  ·refine .inr ⟨rV a b j,nD ha hb h1,fun h=>h2 ((iv a b j i).2 h),?_⟩
   rw[<-fT ha hb]
   exact h3
 ·rintro(h|⟨j,h1,h2,h3⟩)
  ·exact .inl h
  ·refine .inr ⟨rV a b j,nD ha hb h1,fun h=>h2 ?_,?_⟩
   ·have:=(iv a b (rV a b j) i).1 h
    rwa [mH] at this
   ·show(k9 c.states a b).getD _ 0∈l
    rw[fT ha hb,mH]
    exact h3
theorem HP {c:ap} {a b:Nat} (ha:a<c.states.length) (hb:b<c.states.length) (l:List Int) (i:Int):wL (jY c a b) l (lQ a b i) (jY c a b).states.length↔wL c l i c.states.length:=by
 have e:(jY c a b).states.length=c.states.length:=eL _ _ _
 unfold wL
 rw[e]
 constructor
 ·rintro(h|h)
  ·exact .inl h
  ·refine .inr fun j h1 h2=>?_
   have:=h (rV a b j) (nD ha hb h1) (fun h=>h2 (by
    have:=(iv a b (rV a b j) i).1 h
    rwa [mH] at this))
   have e2:(k9 c.states a b).getD (rV a b j) 0=c.states.getD j 0:=by rw[fT ha hb,mH]
   rw[<-e2]
   exact this
 ·rintro(h|h)
  ·exact .inl h
  ·refine .inr fun j h1 h2=>?_
   have:=h (rV a b j) (nD ha hb h1) (fun h=>h2 ((iv a b j i).2 h))
   show(k9 c.states a b).getD _ 0∈l
   rw[fT ha hb]
   exact this
theorem HQ {p:aq} {s:aB} {c:ap} {x:be} {a b:Nat} (h:cK p s c) (ht:p.topology=1) (ha:a<c.states.length) (hb:b<c.states.length):cz p s (jY c a b) (tc x a b) false↔cz p s c x false:=by
 have e:(jY c a b).states.length=c.states.length:=eL _ _ _
 have l1:=Ca (a:=a) (b:=b) (n:=(c.states.length:Int)) (i:=x.process) (by omega) (by omega)
 have l2:=Ca (a:=a) (b:=b) (n:=(c.states.length:Int)) (i:=x.partner) (by omega) (by omega)
 unfold cz
 rw[e]
 show((0<=x.rule/\x.rule<p.rules.length)/\(0<=lQ a b x.process/\lQ a b x.process<c.states.length))/\Fm p s (jY c a b) (p.rules.getD x.rule.toNat au) (tc x a b) false↔_
 rw[l1.1,l1.2.1]
 refine and_congr_right fun hin=>?_
 have hR:=aF h.val (i:=x.rule.toNat) (by omega)
 generalize p.rules.getD x.rule.toNat au=r at hR⊢
 have hfit:=hR.fit
 rw[ht] at hfit
 unfold cb at hfit
 have hk:r.kind=1\/r.kind=2\/r.kind=3:=by omega
 unfold Fm
 rw[show(tc x a b).process=lQ a b x.process from rfl,Cb ha hb hin.2.1]
 refine and_congr_right fun _=>and_congr_right fun _=>?_
 unfold qR
 rw[show(tc x a b).process=lQ a b x.process from rfl,show(tc x a b).partner=lQ a b x.partner from rfl]
 by_cases h2:r.kind=2\/r.kind=5
 ·rw[if_pos h2,if_pos h2]
  have h3:r.kind=2:=by omega
  simp only[h3,true_or,and_true]
  unfold u5
  rw[show(tc x a b).process=lQ a b x.process from rfl,show(tc x a b).partner=lQ a b x.partner from rfl,e,l2.1,l2.2.1]
  refine and_congr_right fun g1=>and_congr_right fun g2=>?_
  rw[Cb ha hb g1]
  refine and_congr (not_congr Ep) Iff.rfl
 ·rw[if_neg h2,if_neg h2,l2.2.2]
  refine and_congr_right fun _=>?_
  by_cases h3:r.kind=1
  ·rw[if_pos h3,if_pos h3]
   refine and_congr Iff.rfl ?_
   unfold uZ
   exact and_congr (HO ha hb _ _) (HP ha hb _ _)
  ·rw[if_neg h3,if_neg h3,if_pos (by omega),if_pos (by omega)]
theorem HR {c:ap} {r:cY} {x:be} {a b j:Nat} (ha:a<c.states.length) (hb:b<c.states.length):lG (jY c a b) r (tc x a b) j=lG c r x (rV a b j):=by
 unfold lG
 rw[show(tc x a b).process=lQ a b x.process from rfl,show(tc x a b).partner=lQ a b x.partner from rfl,show(jY c a b).states=k9 c.states a b from rfl,fT ha hb]
 by_cases h1:(j:Int)=lQ a b x.process
 ·rw[if_pos h1,if_pos ((iv a b j _).1 h1)]
 rw[if_neg h1,if_neg (fun h=>h1 ((iv a b j _).2 h))]
 by_cases h2:(r.kind=2\/r.kind=5)/\(j:Int)=lQ a b x.partner
 ·rw[if_pos h2,if_pos ⟨h2.1,(iv a b j _).1 h2.2⟩]
 rw[if_neg h2,if_neg (c:=(r.kind=2\/r.kind=5)/\((rV a b j:Nat):Int)=x.partner) (fun h=>h2 ⟨h.1,(iv a b j _).2 h.2⟩)]
theorem Cc {p:aq} {s:aB} {c:ap} {a b:Nat} (h:cK p s c) (ha:a<c.states.length) (hb:b<c.states.length):cK p s (jY c a b):=by
 have hv:=h.vc
 have e0:(jY c a b).states.length=c.states.length:=eL _ _ _
 have hw:aX (jY c a b)=false:=by
  have:=h.wide
  unfold aX at this⊢
  rw[e0]
  exact this
 refine⟨h.big,hw,h.val,h.siz,h.sz,h.adm,⟨by rw[e0];exact hv.len,fun j hj=>?_,hv.cor,hv.snl,hv.sen,hv.fal,hv.fau,hv.va0,hv.va1,hv.tre,hv.non⟩⟩
 rw[e0] at hj
 show 0<=(k9 c.states a b).getD j 0/\(k9 c.states a b).getD j 0<_
 rw[fT ha hb]
 exact hv.sta _ (nD ha hb hj)
def lf (p:aq) (q:bO) (s:aB) (c:ap):Prop:=VC p s c/\c.value=0/\(∀j,j<c.sent.length->c.sent.getD j 0=0/\c.faulty.getD j 0=0)/\∀i,i<c.states.length->c.states.getD i 0∈cr p q s i
noncomputable instance decIsI (p:aq) (q:bO) (s:aB) (c:ap):Decidable (lf p q s c):=Classical.propDecidable _
theorem Cd (l:List Int) (s:Int) (hl:l.length<=1000):aa Tryz.prog 78 [.sl 0 aD l, .int .i64 s] (fun u=>u= .bool (decide (s∈l))):=by
 refine aa.intro ab ac Tryz.func78 rfl (by decide) ?_;(conv=>whnf)
 refine aR.loopF ab ac (fun k:Nat=>k<=l.length/\s∉l.take k) (fun k=>[(9, .int .i64 (k:Int))]) (fun _=>[]) (fun k=>l.length-k) 0 ⟨by omega,by simp⟩ ?_;conv=>whnf
 refine⟨sI,?_⟩
 rintro k ⟨hk,ha⟩
 conv=>whnf
 repeat' ((first|refine nI ?_|refine aI ?_|refine uI ?_|refine vI ?_|refine dI ?_|refine dR ?_|refine dP ?_|refine am rfl ?_|refine pI _ rfl ?_|refine ak _ rfl ?_|refine tI ?_|refine fI ?_|refine ag (fun _=>?_) (fun _=>?_))<;>conv=>whnf)
 ·rename_i h1 h2
  rw[tN] at h2
  refine⟨aH ?_,rfl⟩
  rw[h2,gD,gL (by omega)]
  exact List.getElem_mem _
 ·rename_i h1 h2
  rw[tN] at h2
  refine⟨k+1,sI,⟨by omega,?_⟩,by dsimp only;omega⟩
  rw[List.take_succ_eq_append_getElem (by omega),List.mem_append,List.mem_singleton,not_or]
  refine⟨ha,fun e=>h2 ?_⟩
  rw[gD,gL (by omega)]
  exact e
 ·obtain rfl:k=l.length:=by omega
  rw[List.take_length] at ha
  exact⟨an ha,rfl⟩
theorem Ce {p:aq} {q:bO} (hp:¬bV p) (hq:¬fC q) (s:aB) (k:Nat):(cr p q s k).length<=1000:=by
 have hle:=aC hp
 have hlq:=jE hq
 unfold cr Dm
 (repeat' split)<;>omega
theorem wR (p:aq) (q:bO) (s:aB) (c:ap) (hp:¬bV p) (hq:¬fC q) (hw:aX c=false) (hv:db p q=0) (hz:cE p s=0):aa Tryz.prog 41 [.agg (bc p), .agg (gb q), .agg (bW s), .agg (aY c)] (fun u=>u= .bool (decide (lf p q s c))):=by
 have hle:=aC hp
 have hc:=aG hw
 have h2:=dY hz
 refine aa.intro ab ac Tryz.func41 rfl (by decide) ?_;(conv=>whnf)
 refine am rfl ?_
 conv=>whnf
 refine am rfl ?_
 conv=>whnf
 refine am rfl ?_
 conv=>whnf
 refine am rfl ?_
 conv=>whnf
 have hV:=s2 p s c hp hw (by omega)
 by_cases h3:VC p s c
 case neg=>
  have hv:vX p s c=1:=by unfold vX;rw[if_neg h3]
  rw[hv] at hV
  (refine oP (hV) ?_;conv=>whnf)
  refine tI ?_
  conv=>whnf
  exact⟨an (fun h=>h3 h.1),rfl⟩
 have hv0:vX p s c=0:=by unfold vX;rw[if_pos h3]
 rw[hv0] at hV
 have hsf:=h3.snl.trans h3.fal.symm
 (refine oP (hV) ?_;conv=>whnf)
 refine fI ?_
 conv=>whnf
 refine ag ?_ ?_<;>(intro h4;conv=>whnf)
 ·exact⟨an (fun h=>h4 h.2.1),rfl⟩
 refine aR.loopF ab ac (fun k:Nat=>k<=c.sent.length/\∀j,j<k->c.sent.getD j 0=0/\c.faulty.getD j 0=0) (fun k=>[(28, .int .i64 (k:Int))]) (fun _=>[]) (fun k=>c.sent.length-k) 0 ⟨by omega,fun j hj=>by omega⟩ ?_;conv=>whnf
 refine⟨sI,?_⟩
 rintro k ⟨hk,ha⟩
 conv=>whnf
 refine ag ?_ ?_<;>(intro g1;conv=>whnf)
 ·refine nI ?_
  conv=>whnf
  rw[tN]
  refine ag ?_ ?_<;>(intro g2;conv=>whnf)
  ·exact⟨an (fun h=>g2 (h.2.2.1 k (by omega)).1),rfl⟩
  refine nI ?_
  conv=>whnf
  rw[tN]
  refine ag ?_ ?_<;>(intro g3;conv=>whnf)
  ·exact⟨an (fun h=>g3 (h.2.2.1 k (by omega)).2),rfl⟩
  repeat' ((first|refine nI ?_|refine aI ?_|refine tI ?_|refine fI ?_|fail);conv=>whnf)
  refine⟨k+1,sI,⟨by omega,fun j hj=>?_⟩,by dsimp only;omega⟩
  by_cases e:j=k
  ·subst e;exact⟨by omega,by omega⟩
  ·exact ha j (by omega)
 have h5:∀j,j<c.sent.length->c.sent.getD j 0=0/\c.faulty.getD j 0=0:=fun j hj=>ha j (by omega)
 clear ha hk g1
 (refine oP (xS p q hp hq hv) ?_;conv=>whnf)
 refine aR.loopF ab ac (fun i:Nat=>i<=c.states.length/\∀j,j<i->c.states.getD j 0∈cr p q s j) (fun i=>[(55, .int .i64 (i:Int))]) (fun _=>[]) (fun i=>c.states.length-i) 0 ⟨by omega,fun j hj=>by omega⟩ ?_;conv=>whnf
 refine⟨sI,?_⟩
 rintro i ⟨hi,ha⟩
 conv=>whnf
 refine ag ?_ ?_<;>(intro g1;conv=>whnf)
 ·have he:=cr.eq_1 p q s i
  have hcl:=Ce hp hq s i
  have hcor:=h3.cor
  refine nI ?_
  conv=>whnf
  rw[tN]
  have hnx:c.states.getD i 0∈cr p q s i->∀j,j<i+1->c.states.getD j 0∈cr p q s j:=fun h j hj=>by
   by_cases e:j=i
   ·subst e;exact h
   ·exact ha j (by omega)
  have hno:c.states.getD i 0∉cr p q s i->¬lf p q s c:=fun h hh=>h (hh.2.2.2 i (by omega))
  generalize c.states.getD i 0=x at hnx hno
  by_cases k1:i=0/\0<p.leader.length
  ·rw[if_pos k1] at he
   rw[he] at hnx hno hcl
   repeat' ((first|refine nI ?_|refine aI ?_|refine tI ?_|refine fI ?_|fail);conv=>whnf)
   refine dC (Cd p.leader x (by omega)) (fun _=>?_) (fun _=>?_)<;>(conv=>whnf)
   ·rename_i hm
    repeat' ((first|refine nI ?_|refine aI ?_|refine tI ?_|refine fI ?_|fail);conv=>whnf)
    exact⟨i+1,sI,⟨by omega,hnx hm⟩,by dsimp only;omega⟩
   ·rename_i hm
    exact⟨an (hno hm),rfl⟩
  rw[if_neg k1] at he
  by_cases k2:(i:Int)<s.n-s.f
  ·rw[if_pos k2] at he
   rw[he] at hnx hno hcl
   by_cases k3:i=0
   all_goals
    repeat' ((first|refine nI ?_|refine aI ?_|refine tI ?_|refine fI ?_|fail);conv=>whnf)
    refine dC (Cd (Dm p q) x (by omega)) (fun _=>?_) (fun _=>?_)<;>(conv=>whnf)
    ·rename_i hm
     repeat' ((first|refine nI ?_|refine aI ?_|refine tI ?_|refine fI ?_|fail);conv=>whnf)
     exact⟨i+1,sI,⟨by omega,hnx hm⟩,by dsimp only;omega⟩
    ·rename_i hm
     exact⟨an (hno hm),rfl⟩
  ·rw[if_neg k2] at he
   rw[he] at hnx hno hcl
   by_cases k3:i=0
   all_goals
    repeat' ((first|refine nI ?_|refine aI ?_|refine tI ?_|refine fI ?_|fail);conv=>whnf)
    refine dC (Cd p.initial x (by omega)) (fun _=>?_) (fun _=>?_)<;>(conv=>whnf)
    ·rename_i hm
     repeat' ((first|refine nI ?_|refine aI ?_|refine tI ?_|refine fI ?_|fail);conv=>whnf)
     exact⟨i+1,sI,⟨by omega,hnx hm⟩,by dsimp only;omega⟩
    ·rename_i hm
     exact⟨an (hno hm),rfl⟩
 ·exact⟨aH ⟨h3,by omega,h5,fun j hj=>ha j (by omega)⟩,rfl⟩
theorem wS (p:aq) (q:bO) (s:aB) (c:ap) (hp:¬bV p) (hq:¬fC q) (hw:aX c=false) (hz:cE p s=0):aa Tryz.prog 32 [.agg (bc p), .agg (gb q), .agg (bW s), .agg (aY c)] (fun u=>u= .bool (decide (lf p q s c))):=by
 have hle:=aC hp
 have hc:=aG hw
 have h2:=dY hz
 refine aa.intro ab ac Tryz.func32 rfl (by decide) ?_;(conv=>whnf)
 refine am rfl ?_
 conv=>whnf
 refine am rfl ?_
 conv=>whnf
 refine am rfl ?_
 conv=>whnf
 refine am rfl ?_
 conv=>whnf
 refine dC (mB p s c hp hw (by omega)) (fun _=>?_) (fun _=>?_)<;>(conv=>whnf)
 case refine_2=>
  rename_i h3
  exact⟨an (fun h=>h3 h.1),rfl⟩
 rename_i h3
 have hsf:=h3.snl.trans h3.fal.symm
 refine ag ?_ ?_<;>(intro h4;conv=>whnf)
 ·exact⟨an (fun h=>h4 h.2.1),rfl⟩
 refine aR.loopF ab ac (fun k:Nat=>k<=c.sent.length/\∀j,j<k->c.sent.getD j 0=0/\c.faulty.getD j 0=0) (fun k=>[(9, .int .i64 (k:Int))]) (fun _=>[]) (fun k=>c.sent.length-k) 0 ⟨by omega,fun j hj=>by omega⟩ ?_;conv=>whnf
 refine⟨sI,?_⟩
 rintro k ⟨hk,ha⟩
 conv=>whnf
 refine ag ?_ ?_<;>(intro g1;conv=>whnf)
 ·refine nI ?_
  conv=>whnf
  rw[tN]
  refine ag ?_ ?_<;>(intro g2;conv=>whnf)
  ·exact⟨an (fun h=>g2 (h.2.2.1 k (by omega)).1),rfl⟩
  refine nI ?_
  conv=>whnf
  rw[tN]
  refine ag ?_ ?_<;>(intro g3;conv=>whnf)
  ·exact⟨an (fun h=>g3 (h.2.2.1 k (by omega)).2),rfl⟩
  repeat' ((first|refine nI ?_|refine aI ?_|refine tI ?_|refine fI ?_|fail);conv=>whnf)
  refine⟨k+1,sI,⟨by omega,fun j hj=>?_⟩,by dsimp only;omega⟩
  by_cases e:j=k
  ·subst e;exact⟨by omega,by omega⟩
  ·exact ha j (by omega)
 have h5:∀j,j<c.sent.length->c.sent.getD j 0=0/\c.faulty.getD j 0=0:=fun j hj=>ha j (by omega)
 clear ha hk g1
 refine aR.loopF ab ac (fun i:Nat=>i<=c.states.length/\∀j,j<i->c.states.getD j 0∈cr p q s j) (fun i=>[(10, .int .i64 (i:Int))]) (fun _=>[]) (fun i=>c.states.length-i) 0 ⟨by omega,fun j hj=>by omega⟩ ?_;conv=>whnf
 refine⟨sI,?_⟩
 rintro i ⟨hi,ha⟩
 conv=>whnf
 refine ag ?_ ?_<;>(intro g1;conv=>whnf)
 ·have hcl:=Ce hp hq s i
  have hnx:c.states.getD i 0∈cr p q s i->∀j,j<i+1->c.states.getD j 0∈cr p q s j:=fun h j hj=>by
   by_cases e:j=i
   ·subst e;exact h
   ·exact ha j (by omega)
  have hno:c.states.getD i 0∉cr p q s i->¬lf p q s c:=fun h hh=>h (hh.2.2.2 i (by omega))
  refine dI ?_
  conv=>whnf
  (refine oC (kE p q s i hp hq (by omega)) ?_;conv=>whnf)
  refine nI ?_
  conv=>whnf
  rw[tN]
  refine dD (uX (cr p q s i) _ (by omega)) (fun _=>?_) (fun _=>?_)<;>(conv=>whnf)
  ·rename_i hm
   repeat' ((first|refine nI ?_|refine aI ?_|refine tI ?_|refine fI ?_|fail);conv=>whnf)
   exact⟨i+1,sI,⟨by omega,hnx hm⟩,by dsimp only;omega⟩
  ·rename_i hm
   exact⟨an (hno hm),rfl⟩
 ·exact⟨aH ⟨h3,by omega,h5,fun j hj=>ha j (by omega)⟩,rfl⟩
theorem oI {p:aq} {q:bO} {s:aB} (h:fO p q s=0):db p q=0/\cE p s=0:=by
 unfold fO at h
 by_cases h1:db p q≠0
 ·rw[if_pos h1] at h;omega
 ·rw[if_neg h1] at h;exact⟨by omega,h⟩
def HS (p:aq) (q:bO) (s:aB):List AV:=bc p++(gb q++bW s)
theorem HT (p:aq) (q:bO) (s:aB):aa Tryz.prog 6 [.agg (HS p q s)] (fun u=>u= .bool (decide (bV p\/fC q))):=by
 refine aa.intro ab ac Tryz.func6 rfl (by decide) ?_;(conv=>whnf)
 refine am rfl ?_
 conv=>whnf
 refine dC (IX p) (fun _=>?_) (fun _=>?_)<;>(conv=>whnf)
 ·rename_i h;exact⟨aH (.inl h),rfl⟩
 rename_i h1
 refine dC (HJ q) (fun _=>?_) (fun _=>?_)<;>(conv=>whnf)
 ·rename_i h;exact⟨aH (.inr h),rfl⟩
 ·rename_i h;exact⟨an (fun hh=>hh.elim h1 h),rfl⟩
def Er (p:aq) (q:bO) (s:aB) (r:Rn):Prop:=fO p q s=0/\q.kind=1/\lf p q s r.start/\ee p s r.start r.steps/\qQ p q ((trs p r.start r.steps).getD r.steps.length aA)
noncomputable instance decVio (p:aq) (q:bO) (s:aB) (r:Rn):Decidable (Er p q s r):=Classical.propDecidable _
theorem wT {p:aq} {s:aB} {c:ap} (hp:¬bV p) (hw:aX c=false) (hz:cE p s=0) (hv:VC p s c):cK p s c:=
 cK.of hp hw (by
  have:vX p s c=0:=by unfold vX;rw[if_pos hv]
  unfold jP;rw[if_neg (by omega)];exact this)
theorem cK.plain {p:aq} {s:aB} {c:ap} (h:cK p s c):Fh p c:=by
 have hv:=h.vc
 have hf:=h.sz
 have hl:=hv.len
 refine⟨hv.sta,by rw[hv.cor];omega,?_⟩
 rw[hv.cor,hl]
 unfold dL
 split<;>omega
end Go.Proofs.YtblcpnmnibcbbaaGreatDoor
