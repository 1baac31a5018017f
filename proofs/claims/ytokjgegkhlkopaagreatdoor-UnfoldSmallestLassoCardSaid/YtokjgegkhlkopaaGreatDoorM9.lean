import Derived.Test.YtokjgegkhlkopaaGreatDoorA1
import Derived.Test.YtokjgegkhlkopaaGreatDoorM8
set_option linter.unusedVariables false
set_option linter.unusedSimpArgs false
namespace Go.Proofs.YtokjgegkhlkopaaGreatDoor
set_option maxRecDepth 100000
set_option maxHeartbeats 16000000
def ud (a b j:Nat):Nat:=if j=a then b else if j=b then a else j
def m9 (a b:Nat) (i:Int):Int:=if i=a then b else if i=b then a else i
def mg (l:List Int) (a b:Nat):List Int:=(l.set a (l.getD b 0)).set b (l.getD a 0)
def kY (c:ap) (a b:Nat):ap:=⟨c.shape,mg c.states a b,c.correct,c.sent,c.faulty,c.value⟩
def vJ (x:aQ) (a b:Nat):aQ:=⟨x.rule,m9 a b x.process,m9 a b x.partner⟩
theorem fk (l:List Int) (a b:Nat):(mg l a b).length=l.length:=by simp[mg]
theorem gC {l:List Int} {a b:Nat} (ha:a<l.length) (hb:b<l.length) (j:Nat):(mg l a b).getD j 0=l.getD (ud a b j) 0:=by
 unfold mg ud
 rw[aB,aB,List.length_set]
 by_cases h1:b=j
 ·rw[if_pos ⟨h1,hb⟩]
  by_cases h2:j=a
  ·rw[if_pos h2]
   have:a=b:=by omega
   rw[this]
  ·rw[if_neg h2,if_pos h1.symm]
 ·rw[if_neg (fun h=>h1 h.1)]
  by_cases h2:a=j
  ·rw[if_pos ⟨h2,ha⟩,if_pos h2.symm]
  ·rw[if_neg (fun h=>h2 h.1),if_neg (fun h=>h2 h.symm),if_neg (fun h=>h1 h.symm)]
theorem n8 (a b j:Nat):ud a b (ud a b j)=j:=by
 unfold ud
 (repeat' split)<;>omega
theorem o7 {a b n j:Nat} (ha:a<n) (hb:b<n) (h:j<n):ud a b j<n:=by
 unfold ud
 (repeat' split)<;>omega
theorem jq (a b j:Nat) (i:Int):((j:Int)=m9 a b i)↔((ud a b j:Nat):Int)=i:=by
 unfold m9 ud
 (repeat' split)<;>omega
theorem Fd {a b:Nat} {n i:Int} (ha:(a:Int)<n) (hb:(b:Int)<n):(m9 a b i<n↔i<n)/\(0<=m9 a b i↔0<=i)/\(m9 a b i=-1↔i=-1):=by
 unfold m9
 (repeat' split)<;>omega
theorem CI {a b:Nat} {i:Int} (h:0<=i):ud a b (m9 a b i).toNat=i.toNat:=by
 unfold m9 ud
 (repeat' split)<;>omega
theorem HL {a b:Nat} {i j:Int}:m9 a b i=m9 a b j↔i=j:=by
 unfold m9
 (repeat' split)<;>omega
theorem Fe {c:ap} {a b:Nat} (ha:a<c.states.length) (hb:b<c.states.length) {i:Int} (h:0<=i):(kY c a b).states.getD (m9 a b i).toNat 0=c.states.getD i.toNat 0:=by
 show(mg c.states a b).getD _ 0=_
 rw[gC ha hb,CI h]
theorem Mx {c:ap} {a b:Nat} (ha:a<c.states.length) (hb:b<c.states.length) (l:List Int) (i:Int):exK (kY c a b) l (m9 a b i) (kY c a b).states.length↔exK c l i c.states.length:=by
 have e:(kY c a b).states.length=c.states.length:=fk _ _ _
 unfold exK
 rw[e]
 constructor
 ·rintro(h|⟨j,h1,h2,h3⟩)
  ·exact .inl h
  ·refine .inr ⟨ud a b j,o7 ha hb h1,fun h=>h2 ((jq a b j i).2 h),?_⟩
   rw[<-gC ha hb]
   exact h3
 ·rintro(h|⟨j,h1,h2,h3⟩)
  ·exact .inl h
  ·refine .inr ⟨ud a b j,o7 ha hb h1,fun h=>h2 ?_,?_⟩
   ·have:=(jq a b (ud a b j) i).1 h
    rwa [n8] at this
   ·show(mg c.states a b).getD _ 0∈l
    rw[gC ha hb,n8]
    exact h3
theorem My {c:ap} {a b:Nat} (ha:a<c.states.length) (hb:b<c.states.length) (l:List Int) (i:Int):zF (kY c a b) l (m9 a b i) (kY c a b).states.length↔zF c l i c.states.length:=by
 have e:(kY c a b).states.length=c.states.length:=fk _ _ _
 unfold zF
 rw[e]
 constructor
 ·rintro(h|h)
  ·exact .inl h
  ·refine .inr fun j h1 h2=>?_
   have:=h (ud a b j) (o7 ha hb h1) (fun h=>h2 (by
    have:=(jq a b (ud a b j) i).1 h
    rwa [n8] at this))
   have e2:(mg c.states a b).getD (ud a b j) 0=c.states.getD j 0:=by rw[gC ha hb,n8]
   rw[<-e2]
   exact this
 ·rintro(h|h)
  ·exact .inl h
  ·refine .inr fun j h1 h2=>?_
   have:=h (ud a b j) (o7 ha hb h1) (fun h=>h2 ((jq a b j i).2 h))
   show(mg c.states a b).getD _ 0∈l
   rw[gC ha hb]
   exact this
theorem Mz {p:ao} {s:az} {c:ap} {x:aQ} {a b:Nat} (h:c9 p s c) (ht:p.topology=1) (ha:a<c.states.length) (hb:b<c.states.length):cz p s (kY c a b) (vJ x a b) false↔cz p s c x false:=by
 have e:(kY c a b).states.length=c.states.length:=fk _ _ _
 have l1:=Fd (a:=a) (b:=b) (n:=(c.states.length:Int)) (i:=x.process) (by omega) (by omega)
 have l2:=Fd (a:=a) (b:=b) (n:=(c.states.length:Int)) (i:=x.partner) (by omega) (by omega)
 unfold cz
 rw[e]
 show((0<=x.rule/\x.rule<p.rules.length)/\(0<=m9 a b x.process/\m9 a b x.process<c.states.length))/\Jc p s (kY c a b) (p.rules.getD x.rule.toNat au) (vJ x a b) false↔_
 rw[l1.1,l1.2.1]
 refine and_congr_right fun hin=>?_
 have hR:=aK h.val (i:=x.rule.toNat) (by omega)
 generalize p.rules.getD x.rule.toNat au=r at hR⊢
 have hfit:=hR.fit
 rw[ht] at hfit
 unfold cj at hfit
 have hk:r.kind=1\/r.kind=2\/r.kind=3:=by omega
 unfold Jc
 rw[show(vJ x a b).process=m9 a b x.process from rfl,Fe ha hb hin.2.1]
 refine and_congr_right fun _=>and_congr_right fun _=>?_
 unfold tb
 rw[show(vJ x a b).process=m9 a b x.process from rfl,show(vJ x a b).partner=m9 a b x.partner from rfl]
 by_cases h2:r.kind=2\/r.kind=5
 ·rw[if_pos h2,if_pos h2]
  have h3:r.kind=2:=by omega
  simp only[h3,true_or,and_true]
  unfold xH
  rw[show(vJ x a b).process=m9 a b x.process from rfl,show(vJ x a b).partner=m9 a b x.partner from rfl,e,l2.1,l2.2.1]
  refine and_congr_right fun g1=>and_congr_right fun g2=>?_
  rw[Fe ha hb g1]
  refine and_congr (not_congr HL) Iff.rfl
 ·rw[if_neg h2,if_neg h2,l2.2.2]
  refine and_congr_right fun _=>?_
  by_cases h3:r.kind=1
  ·rw[if_pos h3,if_pos h3]
   refine and_congr Iff.rfl ?_
   unfold xE
   exact and_congr (Mx ha hb _ _) (My ha hb _ _)
  ·rw[if_neg h3,if_neg h3,if_pos (by omega),if_pos (by omega)]
theorem MA {c:ap} {r:dh} {x:aQ} {a b j:Nat} (ha:a<c.states.length) (hb:b<c.states.length):mV (kY c a b) r (vJ x a b) j=mV c r x (ud a b j):=by
 unfold mV
 rw[show(vJ x a b).process=m9 a b x.process from rfl,show(vJ x a b).partner=m9 a b x.partner from rfl,show(kY c a b).states=mg c.states a b from rfl,gC ha hb]
 by_cases h1:(j:Int)=m9 a b x.process
 ·rw[if_pos h1,if_pos ((jq a b j _).1 h1)]
 rw[if_neg h1,if_neg (fun h=>h1 ((jq a b j _).2 h))]
 by_cases h2:(r.kind=2\/r.kind=5)/\(j:Int)=m9 a b x.partner
 ·rw[if_pos h2,if_pos ⟨h2.1,(jq a b j _).1 h2.2⟩]
 rw[if_neg h2,if_neg (c:=(r.kind=2\/r.kind=5)/\((ud a b j:Nat):Int)=x.partner) (fun h=>h2 ⟨h.1,(jq a b j _).2 h.2⟩)]
theorem Ff {p:ao} {s:az} {c:ap} {a b:Nat} (h:c9 p s c) (ha:a<c.states.length) (hb:b<c.states.length):c9 p s (kY c a b):=by
 have hv:=h.vc
 have e0:(kY c a b).states.length=c.states.length:=fk _ _ _
 have hw:bc (kY c a b)=false:=by
  have:=h.wide
  unfold bc at this⊢
  rw[e0]
  exact this
 refine⟨h.big,hw,h.val,h.siz,h.sz,h.adm,⟨by rw[e0];exact hv.len,fun j hj=>?_,hv.cor,hv.snl,hv.sen,hv.fal,hv.fau,hv.va0,hv.va1,hv.tre,hv.non⟩⟩
 rw[e0] at hj
 show 0<=(mg c.states a b).getD j 0/\(mg c.states a b).getD j 0<_
 rw[gC ha hb]
 exact hv.sta _ (o7 ha hb hj)
def lH (p:ao) (q:bn) (s:az) (c:ap):Prop:=VC p s c/\c.value=0/\(∀j,j<c.sent.length->c.sent.getD j 0=0/\c.faulty.getD j 0=0)/\∀i,i<c.states.length->c.states.getD i 0∈cK p q s i
noncomputable instance decIsI (p:ao) (q:bn) (s:az) (c:ap):Decidable (lH p q s c):=Classical.propDecidable _
theorem Ky {p:ao} {q:bn} (hp:¬b9 p) (hq:¬eU q) (s:az) (k:Nat):(cK p q s k).length<=1000:=by
 have hle:=aF hp
 have hlq:=kE hq
 unfold cK HH
 (repeat' split)<;>omega
theorem zL (p:ao) (q:bn) (s:az) (c:ap) (hp:¬b9 p) (hq:¬eU q) (hw:bc c=false) (hz:cT p s=0):ae Tryz.prog 29 [.agg (bf p), .agg (eh q), .agg (b7 s), .agg (bg c)] (fun u=>u= .bool (decide (lH p q s c))):=by
 have hle:=aF hp
 have hc:=aL hw
 have h2:=dM hz
 refine ae.intro ab ac Tryz.func29 rfl (by decide) ?_;(conv=>whnf)
 refine am rfl ?_
 conv=>whnf
 refine am rfl ?_
 conv=>whnf
 refine am rfl ?_
 conv=>whnf
 refine am rfl ?_
 conv=>whnf
 refine dC (nX p s c hp hw (by omega)) (fun _=>?_) (fun _=>?_)<;>(conv=>whnf)
 case refine_2=>
  rename_i h3
  exact⟨aq (fun h=>h3 h.1),rfl⟩
 rename_i h3
 have hsf:=h3.snl.trans h3.fal.symm
 refine ah ?_ ?_<;>(intro h4;conv=>whnf)
 ·exact⟨aq (fun h=>h4 h.2.1),rfl⟩
 refine aE.loopF ab ac (fun k:Nat=>k<=c.sent.length/\∀j,j<k->c.sent.getD j 0=0/\c.faulty.getD j 0=0) (fun k=>[(9, .int .i64 (k:Int))]) (fun _=>[]) (fun k=>c.sent.length-k) 0 ⟨by omega,fun j hj=>by omega⟩ ?_;conv=>whnf
 refine⟨sI,?_⟩
 rintro k ⟨hk,ha⟩
 conv=>whnf
 refine ah ?_ ?_<;>(intro g1;conv=>whnf)
 ·refine nI ?_
  conv=>whnf
  rw[tN]
  refine ah ?_ ?_<;>(intro g2;conv=>whnf)
  ·exact⟨aq (fun h=>g2 (h.2.2.1 k (by omega)).1),rfl⟩
  refine nI ?_
  conv=>whnf
  rw[tN]
  refine ah ?_ ?_<;>(intro g3;conv=>whnf)
  ·exact⟨aq (fun h=>g3 (h.2.2.1 k (by omega)).2),rfl⟩
  repeat' ((first|refine nI ?_|refine aI ?_|refine tI ?_|refine fI ?_|fail);conv=>whnf)
  refine⟨k+1,sI,⟨by omega,fun j hj=>?_⟩,by dsimp only;omega⟩
  by_cases e:j=k
  ·subst e;exact⟨by omega,by omega⟩
  ·exact ha j (by omega)
 have h5:∀j,j<c.sent.length->c.sent.getD j 0=0/\c.faulty.getD j 0=0:=fun j hj=>ha j (by omega)
 clear ha hk g1
 refine aE.loopF ab ac (fun i:Nat=>i<=c.states.length/\∀j,j<i->c.states.getD j 0∈cK p q s j) (fun i=>[(10, .int .i64 (i:Int))]) (fun _=>[]) (fun i=>c.states.length-i) 0 ⟨by omega,fun j hj=>by omega⟩ ?_;conv=>whnf
 refine⟨sI,?_⟩
 rintro i ⟨hi,ha⟩
 conv=>whnf
 refine ah ?_ ?_<;>(intro g1;conv=>whnf)
 ·have hcl:=Ky hp hq s i
  have hnx:c.states.getD i 0∈cK p q s i->∀j,j<i+1->c.states.getD j 0∈cK p q s j:=fun h j hj=>by
   by_cases e:j=i
   ·subst e;exact h
   ·exact ha j (by omega)
  have hno:c.states.getD i 0∉cK p q s i->¬lH p q s c:=fun h hh=>h (hh.2.2.2 i (by omega))
  refine dI ?_
  conv=>whnf
  (refine oC (lG p q s i hp hq (by omega)) ?_;conv=>whnf)
  refine nI ?_
  conv=>whnf
  rw[tN]
  refine dD (xA (cK p q s i) _ (by omega)) (fun _=>?_) (fun _=>?_)<;>(conv=>whnf)
  ·rename_i hm
   repeat' ((first|refine nI ?_|refine aI ?_|refine tI ?_|refine fI ?_|fail);conv=>whnf)
   exact⟨i+1,sI,⟨by omega,hnx hm⟩,by dsimp only;omega⟩
  ·rename_i hm
   exact⟨aq (hno hm),rfl⟩
 ·exact⟨aN ⟨h3,by omega,h5,fun j hj=>ha j (by omega)⟩,rfl⟩
theorem vK {p:ao} {q:bn} {s:az} (h:dB p q s=0):cq p q=0/\cT p s=0:=by
 unfold dB at h
 by_cases h1:cq p q≠0
 ·rw[if_pos h1] at h;omega
 ·rw[if_neg h1] at h;exact⟨by omega,h⟩
def AY (p:ao) (q:bn) (s:az):List AV:=bf p++(eh q++b7 s)
theorem Fg (p:ao) (q:bn) (s:az):ae Tryz.prog 5 [.agg (AY p q s)] (fun u=>u= .bool (decide (b9 p\/eU q))):=by
 refine ae.intro ab ac Tryz.func5 rfl (by decide) ?_;(conv=>whnf)
 refine am rfl ?_
 conv=>whnf
 refine dC (Mg p) (fun _=>?_) (fun _=>?_)<;>(conv=>whnf)
 ·rename_i h;exact⟨aN (.inl h),rfl⟩
 rename_i h1
 refine dC (I6 q) (fun _=>?_) (fun _=>?_)<;>(conv=>whnf)
 ·rename_i h;exact⟨aN (.inr h),rfl⟩
 ·rename_i h;exact⟨aq (fun hh=>hh.elim h1 h),rfl⟩
def HM (p:ao) (q:bn) (s:az) (r:Rn):Prop:=dB p q s=0/\q.kind=1/\lH p q s r.start/\fB p s r.start r.steps/\s9 p q ((trs p r.start r.steps).getD r.steps.length aC)
noncomputable instance decVio (p:ao) (q:bn) (s:az) (r:Rn):Decidable (HM p q s r):=Classical.propDecidable _
theorem Fh {p:ao} {s:az} {c:ap} (hp:¬b9 p) (hw:bc c=false) (hz:cT p s=0) (hv:VC p s c):c9 p s c:=
 c9.of hp hw (by
  have:J8 p s c=0:=by unfold J8;rw[if_pos hv]
  unfold kP;rw[if_neg (by omega)];exact this)
theorem c9.plain {p:ao} {s:az} {c:ap} (h:c9 p s c):I7 p c:=by
 have hv:=h.vc
 have hf:=h.sz
 have hl:=hv.len
 refine⟨hv.sta,by rw[hv.cor];omega,?_⟩
 rw[hv.cor,hl]
 unfold ee
 split<;>omega
def CJ:Sh:=.str (.int (.sl (.str .nil) (.sl (.str .nil) (.sl (.str .nil) (.int (.sl s7 (f7 (f7 (.sl s8 (.str (.int (f7 (.sl ta (f7 (f7 (.int (.int (.int .nil))))))))))))))))))
theorem Kz:sY Tryz.prog 9 34=some CJ:=by kernel_rfl
def MB:jC CJ->ao
 |(a,b,c,d,e,f,g,h,i,j,_)=>⟨a,b,Ci c,Ci d,Ci e,f,List.map xx g,nums h,nums i,List.map xy j⟩
def MC:jC CJ->bn
 |(_,_,_,_,_,_,_,_,_,_,a,b,c,d,e,f,_)=>⟨a,b,nums c,List.map xD d,nums e,nums f⟩
def MD:jC CJ->az
 |(_,_,_,_,_,_,_,_,_,_,_,_,_,_,_,_,a,b,c,_)=>⟨a,b,c⟩
theorem HN {S:ag} (y:jC CJ):yE S (cy CJ y) (AY (MB y) (MC y) (MD y)):=by
 obtain⟨a,b,c,d,e,f,g,h,i,j,a2,b2,c2,d2,e2,f2,a1,b1,c1,⟨⟩⟩:=y
 exact⟨Cv.refl _ _,Cv.refl _ _,Cv.strs c,Cv.strs d,Cv.strs e,Cv.refl _ _,AK g,Cv.ints h,Cv.ints i,AM j,Cv.refl _ _,Cv.refl _ _,Cv.ints c2,AR d2,Cv.ints e2,Cv.ints f2,Cv.refl _ _,Cv.refl _ _,Cv.refl _ _,trivial⟩
end Go.Proofs.YtokjgegkhlkopaaGreatDoor
