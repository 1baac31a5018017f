import Derived.Test.YtekmminpfhacpaaGreatDoorPA
import Derived.Test.YtekmminpfhacpaaGreatDoorFL
import Derived.Test.YtekmminpfhacpaaGreatDoorGA
import Derived.Test.YtekmminpfhacpaaGreatDoorHA
import Derived.Test.YtekmminpfhacpaaGreatDoorS1
set_option linter.unusedVariables false
set_option linter.unusedSimpArgs false
namespace Go.Proofs.YtekmminpfhacpaaGreatDoor
set_option maxRecDepth 100000
set_option maxHeartbeats 16000000
theorem GJ {p:an} {q:aG} {s:aJ} {c:az} {x:bH} (ht:dZ p) (hk:q.kind=2) (hg:ji p q) (he:mL p s c x false) (h:kJ q c):kJ q (eD c (ce p x) x):=by
 obtain⟨⟨⟨r1,r2⟩,⟨q1,q2⟩⟩,hs,_,_⟩:=he
 have hri:=ht.2.2 x.rule.toNat (by omega)
 intro j hj
 have hj':(j:Int)<c.correct:=hj
 have a:=h j hj'
 rw[l9 (show(ce p x).kind=1 from hri.1) ⟨q1,q2⟩,cL]
 split
 ·rename_i e
  refine hg hk x.rule.toNat (by omega) ?_
  rw[<-hs,e.1]
  exact a
 ·exact a
theorem Bn {p:an} {q:aG} {s:aJ} (ht:dZ p) (hk:q.kind=2) (hg:ji p q):∀{xs:List bH} {c:az},ct p s c xs->(∃d∈cY p c xs,kJ q d)->kJ q ((cY p c xs).getD xs.length aU)
 |[],c,_,⟨d,hd,h⟩=>by
  have:d=c:=List.mem_singleton.1 hd
  subst this
  exact h
 |x::xs,c,⟨h1,h2,h3⟩,⟨d,hd,h⟩=>by
  have hex:∃d∈cY p (eD c (ce p x) x) xs,kJ q d:=by
   rcases List.mem_cons.1 hd with rfl|hd
   ·exact⟨_,kx,GJ ht hk hg h1 h⟩
   ·exact⟨d,hd,h⟩
  have:=Bn (c:=eD c (ce p x) x) (xs:=xs) ht hk hg h3 hex
  exact this
set_option maxHeartbeats 4000000
def x7 (K:Int):List bH->List Int->List Vb
 |x::xs,j::js=>⟨if x.process<K then 5 else 6,j,x.rule⟩::x7 K xs js
 |[],_=>[]
 |_::_,[]=>[]
theorem vG {K:Int}:∀{xs:List bH} {js:List Int} {ys:List bH} {ks:List Int},xs.length=js.length->x7 K (xs++ys) (js++ks)=x7 K xs js++x7 K ys ks
 |[],[],_,_,_=>rfl
 |[],j::js,_,_,h=>by simp at h
 |x::xs,[],_,_,h=>by simp at h
 |x::xs,j::js,ys,ks,h=>by
  have ih:=vG (K:=K) (xs:=xs) (js:=js) (ys:=ys) (ks:=ks) (by simpa using h)
  simp only[List.cons_append,x7,ih]
theorem qp {K:Int}:∀{xs:List bH} {js:List Int},xs.length=js.length->(x7 K xs js).length=xs.length
 |[],_,_=>rfl
 |x::xs,[],h=>by simp at h
 |x::xs,j::js,h=>by simp only[x7,List.length_cons,qp (xs:=xs) (js:=js) (by simpa using h)]
theorem vH {c:az}:∀{xs:List bH} {js:List Int} {k:Nat},xs.length=js.length->k<xs.length->(x7 c.correct xs js).getD k dU=lJ c xs js k
 |[],_,k,_,h=>by simp at h
 |x::xs,[],_,h,_=>by simp at h
 |x::xs,j::js,0,_,_=>rfl
 |x::xs,j::js,k+1,h,hk=>vH (xs:=xs) (js:=js) (k:=k) (by simpa using h) (by simpa using hk)
theorem xO {c:az} {xs:List bH} {js:List Int} (v:Vb) (h:xs.length=js.length):∀n,n<=xs.length->cT c xs js v n=(((x7 c.correct xs js).take n).count v:Int)
 |0,_=>by simp[cT]
 |n+1,hn=>by
  have hl:=qp (K:=c.correct) h
  have hg:=vH (c:=c) (k:=n) h (by omega)
  rw[cT,xO v h n (by omega),ba dU (by omega),List.count_append,hg,List.count_singleton]
  by_cases e:v=lJ c xs js n
  ·rw[if_pos e];simp[e]
  ·rw[if_neg e]
   have:¬lJ c xs js n=v:=fun h=>e h.symm
   simp[this]
section
variable {p:an} {s:aJ}
theorem si {ri:Int} {lo hi:Nat} (j kd:Int):∀(n:Nat) (c:az) (xs:List bH),dx p s c->(∀i:Nat,lo<=i->i<hi->(if(i:Int)<c.correct then(5:Int) else 6)=kd)->(dq p s ri lo hi n c xs).2.2=0->
  ∃ys,(dq p s ri lo hi n c xs).2.1=xs++ys/\ys.length=n/\ct p s c ys/\(cY p c ys).getD ys.length aU=(dq p s ri lo hi n c xs).1/\x7 c.correct ys (List.replicate n j)=List.replicate n ⟨kd,j,ri⟩
 |0,c,xs,_,_,_=>⟨[],by simp[dq],rfl,trivial,rfl,rfl⟩
 |n+1,c,xs,h,hkd,hz=>by
  have e:dq p s ri lo hi (n+1) c xs=if lE c.states (bU p ri) (hi-lo) lo<0 then(aU,[],9) else if jI p s c ⟨ri,lE c.states (bU p ri) (hi-lo) lo,-1⟩≠0 then(aU,[],jI p s c ⟨ri,lE c.states (bU p ri) (hi-lo) lo,-1⟩) else dq p s ri lo hi n (eD c (p.rules.getD ri.toNat ap) ⟨ri,lE c.states (bU p ri) (hi-lo) lo,-1⟩) (xs++[⟨ri,lE c.states (bU p ri) (hi-lo) lo,-1⟩]):=rfl
  by_cases h1:lE c.states (bU p ri) (hi-lo) lo<0
  ·rw[e,if_pos h1] at hz;exact absurd hz (by decide)
  rw[if_neg h1] at e
  by_cases h2:jI p s c ⟨ri,lE c.states (bU p ri) (hi-lo) lo,-1⟩≠0
  ·rw[e,if_pos h2] at hz;exact absurd hz h2
  rw[if_neg h2] at e
  have h2:=Classical.not_not.1 h2
  obtain⟨k,hk,k1,k2⟩:∃k:Nat,lE c.states (bU p ri) (hi-lo) lo=k/\lo<=k/\k<hi:=by
   by_cases ho:mi c.states (bU p ri) (hi-lo) lo=0
   ·rw[JV ho] at h1;omega
   ·obtain⟨k,a,b,d,_⟩:=Ga (l:=c.states) (x:=bU p ri) (n:=hi-lo) (i:=lo) (by omega)
    exact⟨k,a,b,by omega⟩
  rw[hk] at e h2
  obtain⟨_,h3,h4⟩:=vg h2
  rw[e] at hz⊢
  obtain⟨ys,a1,a2,a3,a4,a5⟩:=si j kd n _ _ (qi h h2) (fun i hi1 hi2=>hkd i hi1 hi2) hz
  refine⟨⟨ri,k,-1⟩::ys,by rw[a1];simp,by rw[List.length_cons,a2],⟨h3,h4,a3⟩,a4,?_⟩
  rw[List.replicate_succ,List.replicate_succ,x7]
  dsimp only
  rw[hkd k k1 k2]
  congr 1
theorem GK {ri:Int} (j:Int) {n m:Nat} {c:az} (h:dx p s c) (hz:(fU p s c ri n m).2.2=0):
  ∃ys,(fU p s c ri n m).2.1=ys/\ys.length=n+m/\ct p s c ys/\(cY p c ys).getD ys.length aU=(fU p s c ri n m).1/\x7 c.correct ys (List.replicate (n+m) j)=List.replicate n ⟨5,j,ri⟩++List.replicate m ⟨6,j,ri⟩:=by
 have hcor:=h.vc.cor
 have hsz:=h.sz
 have hc0:0<=c.correct:=by omega
 unfold fU at hz⊢
 by_cases h1:(dq p s ri 0 c.correct.toNat n c []).2.2≠0
 ·rw[if_pos h1] at hz;exact absurd hz h1
 rw[if_neg h1] at hz⊢
 have h1:=Classical.not_not.1 h1
 obtain⟨ys,a1,a2,a3,a4,a5⟩:=si j 5 n c [] h (fun i _ hi=>if_pos (by omega)) h1
 have kA:=l8 p s ri 0 c.correct.toNat n c [] h
 obtain⟨_,r1,r2,r3,_⟩:=kA.resolve_right fun y=>y.1 h1
 obtain⟨zs,b1,b2,b3,b4,b5⟩:=si j 6 m _ _ r1 (fun i hi _=>if_neg (by rw[r3];omega)) hz
 rw[r3] at b5
 refine⟨ys++zs,by rw[b1,a1];simp,by rw[List.length_append,a2,b2],jM.2 ⟨a3,by rw[a4];exact b3⟩,by rw[A8,a4];exact b4,?_⟩
 rw[<-List.replicate_append_replicate,vG (by rw[a2,List.length_replicate]),a5,b5]
variable {t5 t6:Nat->Int->Int}
def vI (t5 t6:Nat->Int->Int) (L:List (Nat×Int)):List Int:=L.flatMap fun y=>List.replicate ((t5 y.1 y.2).toNat+(t6 y.1 y.2).toNat) (y.1:Int)
def Je (t5 t6:Nat->Int->Int) (L:List (Nat×Int)):List Vb:=L.flatMap fun y=>List.replicate (t5 y.1 y.2).toNat ⟨5,y.1,y.2⟩++List.replicate (t6 y.1 y.2).toNat ⟨6,y.1,y.2⟩
theorem xP:∀(L:List (Nat×Int)) (c:az) (xs:List bH),dx p s c->(jK p s t5 t6 L c xs).2.2=0->
  ∃ys,(jK p s t5 t6 L c xs).2.1=xs++ys/\ys.length=(vI t5 t6 L).length/\ct p s c ys/\(cY p c ys).getD ys.length aU=(jK p s t5 t6 L c xs).1/\x7 c.correct ys (vI t5 t6 L)=Je t5 t6 L
 |[],c,xs,_,_=>⟨[],by simp[jK],rfl,trivial,rfl,rfl⟩
 |(i,ri)::L,c,xs,h,hz=>by
  rw[jL] at hz⊢
  by_cases h1:(fU p s c ri (t5 i ri).toNat (t6 i ri).toNat).2.2≠0
  ·rw[if_pos h1] at hz;exact absurd hz h1
  rw[if_neg h1] at hz⊢
  have h1:=Classical.not_not.1 h1
  obtain⟨ys,a1,a2,a3,a4,a5⟩:=GK (i:Int) h h1
  obtain⟨_,r1,_⟩:=(AR (ri:=ri) (n:=(t5 i ri).toNat) (m:=(t6 i ri).toNat) h).resolve_right fun y=>y.1 h1
  have hcc:(fU p s c ri (t5 i ri).toNat (t6 i ri).toNat).1.correct=c.correct:=by
   have a:=r1.vc.cor
   have b:=h.vc.cor
   omega
  obtain⟨zs,b1,b2,b3,b4,b5⟩:=xP L _ (xs++(fU p s c ri (t5 i ri).toNat (t6 i ri).toNat).2.1) r1 hz
  rw[hcc] at b5
  refine⟨ys++zs,by rw[b1,a1];simp,?_,jM.2 ⟨a3,by rw[a4];exact b3⟩,by rw[A8,a4];exact b4,?_⟩
  ·unfold vI at b2⊢
   rw[List.flatMap_cons,List.length_append,List.length_append,a2,b2,List.length_replicate]
  ·unfold vI Je at b5⊢
   rw[List.flatMap_cons,List.flatMap_cons,vG (by rw[a2,List.length_replicate]),a5,b5]
theorem xQ {L:List (Nat×Int)} {x:Int} (h:x∈vI t5 t6 L):∃y∈L,x=y.1:=by
 obtain⟨y,hy,hx⟩:=List.mem_flatMap.1 h
 exact⟨y,hy,(List.mem_replicate.1 hx).2⟩
theorem Jf {L:List (Nat×Int)} {v:Vb} (h:v∈Je t5 t6 L):∃y∈L,(v=⟨5,y.1,y.2⟩/\0<t5 y.1 y.2)\/(v=⟨6,y.1,y.2⟩/\0<t6 y.1 y.2):=by
 obtain⟨y,hy,hx⟩:=List.mem_flatMap.1 h
 refine⟨y,hy,?_⟩
 rcases List.mem_append.1 hx with hx|hx
 ·have:=List.mem_replicate.1 hx
  exact .inl ⟨this.2,by omega⟩
 ·have:=List.mem_replicate.1 hx
  exact .inr ⟨this.2,by omega⟩
theorem CV {L:List (Nat×Int)} (h:L.Pairwise fun a b=>a.1<=b.1):(vI t5 t6 L).Pairwise (·<=·):=by
 unfold vI
 rw[List.pairwise_flatMap]
 refine⟨fun y _=>?_,h.imp fun{a b} hab x hx z hz=>?_⟩
 ·rw[List.pairwise_replicate]
  exact .inr (Int.le_refl _)
 ·rw[(List.mem_replicate.1 hx).2,(List.mem_replicate.1 hz).2]
  omega
theorem CW {L:List (Nat×Int)} (h:L.Nodup) (i:Nat) (ri:Int):(Je t5 t6 L).count ⟨5,i,ri⟩=(if(i,ri)∈L then(t5 i ri).toNat else 0)/\(Je t5 t6 L).count ⟨6,i,ri⟩=(if(i,ri)∈L then(t6 i ri).toNat else 0):=by
 induction L with
 |nil=>simp[Je]
 |cons y L ih=>
  obtain⟨h1,h2⟩:=List.nodup_cons.1 h
  obtain⟨ih1,ih2⟩:=ih h2
  have e5:Je t5 t6 (y::L)=List.replicate (t5 y.1 y.2).toNat ⟨5,y.1,y.2⟩++List.replicate (t6 y.1 y.2).toNat ⟨6,y.1,y.2⟩++Je t5 t6 L:=rfl
  have a:∀k k2:Int,((⟨k,(y.1:Int),y.2⟩:Vb)==⟨k2,(i:Int),ri⟩)=decide (k=k2/\y=(i,ri)):=fun k k2=>by
   rw[Bool.eq_iff_iff,beq_iff_eq,decide_eq_true_eq]
   constructor
   ·intro e
    have x1:=congrArg Vb.kind e
    have x2:=congrArg Vb.seg e
    have x3:=congrArg Vb.idx e
    dsimp only at x1 x2 x3
    exact⟨x1,Prod.ext (by omega) x3⟩
   ·rintro⟨rfl,e⟩
    rw[e]
  rw[e5,List.count_append,List.count_append,List.count_append,List.count_append,List.count_replicate,List.count_replicate,List.count_replicate,List.count_replicate,a,a,a,a,ih1,ih2]
  by_cases e:y=(i,ri)
  ·subst e
   simp[h1]
  ·have:(i,ri)∈y::L↔(i,ri)∈L:=by
    rw[List.mem_cons]
    exact⟨fun h=>h.resolve_left fun h=>e h.symm, .inr⟩
   simp[e,Ne.symm e]
end
theorem fN {ord:List Int}:∀{n j:Nat} {y:Nat×Int},y∈jJ ord n j↔(j<=y.1/\y.1<j+n)/\y.2∈ord
 |0,j,y=>by
  simp only[jJ,List.not_mem_nil,false_iff]
  omega
 |n+1,j,y=>by
  rw[jJ,List.mem_append,fN (n:=n),List.mem_map]
  constructor
  ·rintro(⟨r,hr,rfl⟩|⟨h1,h2⟩)
   ·exact⟨by dsimp only;omega,hr⟩
   ·exact⟨by omega,h2⟩
  ·rintro⟨h1,h2⟩
   by_cases e:y.1=j
   ·exact .inl ⟨y.2,h2,by rw[<-e]⟩
   ·exact .inr ⟨by omega,h2⟩
theorem ky {ord:List Int} (h:ord.Nodup):∀n j,(jJ ord n j).Nodup
 |0,j=>List.nodup_nil
 |n+1,j=>by
  rw[jJ,List.nodup_append]
  refine⟨?_,ky h n (j+1),fun a ha b hb e=>?_⟩
  ·refine List.pairwise_map.2 (h.imp fun{a b} hab e=>hab ?_)
   exact congrArg Prod.snd e
  ·obtain⟨r,_,rfl⟩:=List.mem_map.1 ha
   subst e
   have:=(fN.1 hb).1
   dsimp only at this
   omega
theorem md {ord:List Int}:∀n j,(jJ ord n j).Pairwise fun a b=>a.1<=b.1
 |0,j=>List.Pairwise.nil
 |n+1,j=>by
  rw[jJ,List.pairwise_append]
  refine⟨List.pairwise_map.2 (List.pairwise_iff_getElem.2 fun _ _ _ _ _=>Nat.le_refl _),md n (j+1),fun a ha b hb=>?_⟩
  obtain⟨r,_,rfl⟩:=List.mem_map.1 ha
  have:=(fN.1 hb).1
  dsimp only
  omega
theorem mS (rs:List bo) (n:Nat):(hJ rs n).Nodup:=by
 unfold hJ List.Nodup
 rw[List.pairwise_flatMap]
 refine⟨fun x _=>List.pairwise_map.2 ((List.nodup_range.filter _).imp fun{a b} hab e=>hab (by omega)),?_⟩
 refine(List.nodup_range (n:=n)).imp fun{a b} hab x hx y hy e=>?_
 obtain⟨i,hi,rfl⟩:=List.mem_map.1 hx
 obtain⟨k,hk,e2⟩:=List.mem_map.1 hy
 have e3:k=i:=by omega
 subst e3
 have h1:=(List.mem_filter.1 hi).2
 have h2:=(List.mem_filter.1 hk).2
 rw[decide_eq_true_eq] at h1 h2
 omega
theorem oe {p:an} (hv:aA p=0) {r:Int}:r∈hJ p.rules p.states.length↔0<=r/\r<p.rules.length:=by
 constructor
 ·exact ql
 ·rintro⟨h1,h2⟩
  have hr:=qd hv r.toNat (by omega)
  rw[uU] at hr
  unfold hJ
  refine List.mem_flatMap.2 ⟨(p.rules.getD r.toNat ap).src.toNat,List.mem_range.2 (by omega),List.mem_map.2 ⟨r.toNat,List.mem_filter.2 ⟨List.mem_range.2 (by omega),by rw[decide_eq_true_eq];omega⟩,by omega⟩⟩
end Go.Proofs.YtekmminpfhacpaaGreatDoor
namespace Go.Proofs.YtekmminpfhacpaaGreatDoor
set_option maxRecDepth 100000
set_option maxHeartbeats 4000000
theorem vJ (K:Int) (y:Int) (l:List Int):∀n:Nat,n<=l.length->mc K true y l n+mc K false y l n=((l.take n).count y:Int)
 |0,_=>by simp[mc,di]
 |n+1,h=>by
  have ih:=vJ K y l n (by omega)
  unfold mc at ih⊢
  have hg:=av (0:Int) (show n<l.length by omega)
  rw[di,di,List.take_succ_eq_append_getElem (by omega),List.count_append,List.count_singleton]
  by_cases hk:(n:Int)<K
  ·have d:decide ((n:Int)<K)=true:=by simpa using hk
   rw[if_neg (c:=decide ((n:Int)<K)=false/\l.getD n 0=y) fun h=>by rw[d] at h;exact absurd h.1 (by decide)]
   by_cases e:l[n]=y
   ·rw[if_pos ⟨d,hg.trans e⟩,if_pos (by simpa using e)];omega
   ·rw[if_neg fun h=>e (hg.symm.trans h.2),if_neg (by simpa using e)];omega
  ·have d:decide ((n:Int)<K)=false:=by simpa using hk
   rw[if_neg (c:=decide ((n:Int)<K)=true/\l.getD n 0=y) fun h=>by rw[d] at h;exact absurd h.1 (by decide)]
   by_cases e:l[n]=y
   ·rw[if_pos ⟨d,hg.trans e⟩,if_pos (by simpa using e)];omega
   ·rw[if_neg fun h=>e (hg.symm.trans h.2),if_neg (by simpa using e)];omega
theorem J0 (c:az) (y:Int):∀n:Nat,cS c ⟨3,0,y⟩ n=mc c.correct true y c.states n/\cS c ⟨4,0,y⟩ n=mc c.correct false y c.states n
 |0=>⟨rfl,rfl⟩
 |n+1=>by
  obtain⟨a,b⟩:=J0 c y n
  have e:∀k:Int,(⟨k,0,y⟩:Vb)=fV c n↔k=(if(n:Int)<c.correct then 3 else 4)/\c.states.getD n 0=y:=fun k=>by
   unfold fV
   constructor
   ·intro h
    exact⟨congrArg Vb.kind h,(congrArg Vb.idx h).symm⟩
   ·rintro⟨h1,h2⟩
    rw[h1,h2]
  unfold mc at a b⊢
  rw[cS,cS,di,di,a,b]
  simp only[e]
  by_cases hk:(n:Int)<c.correct
  ·simp[hk]
  ·simp[hk]
theorem po {a:Co} {kind y:Int} {l:List Int} (h:l.Nodup):(gq a kind l).count y=if y∈l then(a ⟨kind,0,y⟩).toNat else 0:=by
 induction l with
 |nil=>simp[gq]
 |cons x l ih=>
  obtain⟨h1,h2⟩:=List.nodup_cons.1 h
  have ih:=ih h2
  unfold gq at ih⊢
  rw[List.flatMap_cons,List.count_append,ih,List.count_replicate]
  by_cases e:x=y
  ·subst e
   simp[h1]
  ·have:y∈x::l↔y∈l:=by simp[Ne.symm e]
   simp[e,Ne.symm e]
theorem GL {c:az} {xs:List bH} {seg:List Int} {v:Vb} (h:v.kind<5):∀n,cT c xs seg v n=0
 |0=>rfl
 |n+1=>by
  rw[cT,GL h n,if_neg]
  ·rfl
  ·intro e
   have:=congrArg Vb.kind e
   unfold lJ at this
   dsimp only at this
   split at this<;>omega
theorem GM {c:az} {v:Vb} (h:4<v.kind):∀n,cS c v n=0
 |0=>rfl
 |n+1=>by
  rw[cS,GM h n,if_neg]
  ·rfl
  ·intro e
   have:=congrArg Vb.kind e
   unfold fV at this
   dsimp only at this
   split at this<;>omega
theorem GN {s:aJ} {v:Vb} (h:2<v.kind):pL s v=0:=by
 unfold pL
 rw[if_neg (fun e=>by subst e;dsimp only at h;omega),if_neg (fun e=>by subst e;dsimp only at h;omega),if_neg (fun e=>by subst e;dsimp only at h;omega)]
section
variable {p:an} {q:aG} {sch x:List Int} {number:Int}
noncomputable abbrev aX (p:an) (q:aG) (sch x:List Int):Co:=iC (ak p q sch) x
noncomputable abbrev vT (p:an) (q:aG) (sch x:List Int):Rn:=⟨bq p q (aX p q sch x),(mj p q sch x).2.1⟩
noncomputable abbrev kz (p:an) (q:aG) (sch x:List Int):aJ:=ew (aX p q sch x)
noncomputable abbrev CX (p:an) (sch:List Int):List (Nat×Int):=jJ (hJ p.rules p.states.length) (sch.length+1) 0
noncomputable abbrev Mk (p:an) (q:aG) (sch x:List Int):List Int:=vI (xz p q sch x) (xA p q sch x) (CX p sch)
structure kP (p:an) (q:aG) (sch x:List Int) (number:Int):Prop where
 sol:LK p q sch x number
 pos:∀v∈ak p q sch,0<=aX p q sch x v/\aX p q sch x v<=1048576
 row:∀w∈fg p q sch number,0<=w.2+bk w.1 (aX p q sch x) (ak p q sch)
theorem Bo (hc:cb p q=0) (hs:da (ax p.rules).length sch) (h:o8 (kq p q sch number) x) (h8:¬8<x.getD 0 0):kP p q sch x number:=by
 have hs2:=Gg hc hs h h8
 have hn:=bu hs2.prp sch
 have hm:=Ff hn (vo h)
 rw[<-hm] at h
 obtain⟨h1,h2⟩:=(y5 hs2.prp hs).1 h
 rw[hm] at*
 exact⟨hs2,h1,h2⟩
theorem tL (h:kP p q sch x number):((gq (aX p q sch x) 3 (bw p q)).length:Int)=(bq p q (aX p q sch x)).correct:=by
 have hst:=kv h.sol.prp h.row
 have hev:=F' (p:=p) (q:=q) (sch:=sch) (a:=aX p q sch x)
 rw[vj (a:=aX p q sch x) (kind:=3) (l:=bw p q) fun y hy=>(h.pos _ (ma.2 hy)).1,<-hev.1,hst.1]
 rfl
theorem Jg (h:kP p q sch x number):CM p q (kz p q sch x) (bq p q (aX p q sch x)):=by
 have h3:=tL h
 have hv:=(aL (aF h.sol.prp).vld).shp
 have ht:=h.sol.thr
 refine⟨h.sol.rdy.vc,rfl,fun j _=>?_,fun i hi=>?_⟩
 ·constructor
  ·show(List.replicate p.messages.length (0:Int)).getD j 0=0
   rw[gD,List.getElem?_replicate]
   split<;>rfl
  ·show(List.replicate p.messages.length (0:Int)).getD j 0=0
   rw[gD,List.getElem?_replicate]
   split<;>rfl
 ·unfold CL
  rw[if_neg (by have:=ht.1;omega)]
  have ec:(bq p q (aX p q sch x)).correct=(kz p q sch x).n-(kz p q sch x).f:=rfl
  have es:(bq p q (aX p q sch x)).states=gq (aX p q sch x) 3 (bw p q)++(if jC p then gq (aX p q sch x) 4 p.initial else[]):=rfl
  rw[es] at hi⊢
  by_cases hk:(i:Int)<(kz p q sch x).n-(kz p q sch x).f
  ·rw[if_pos hk]
   have hil:i<(gq (aX p q sch x) 3 (bw p q)).length:=by omega
   rw[tJ hil]
   exact qj (aB 0 hil)
  ·rw[if_neg hk]
   have hil:(gq (aX p q sch x) 3 (bw p q)).length<=i:=by omega
   rw[mP hil]
   rw[List.length_append] at hi
   by_cases hw:jC p
   ·rw[if_pos hw] at hi⊢
    exact qj (aB 0 (by omega))
   ·rw[if_neg hw,List.length_nil] at hi
    omega
noncomputable abbrev og (p:an) (q:aG) (sch x:List Int) (L:List (Nat×Int)):az×List bH×Int:=jK p (kz p q sch x) (xz p q sch x) (xA p q sch x) L (bq p q (aX p q sch x)) []
noncomputable abbrev me (p:an) (q:aG) (sch x:List Int) (L:List (Nat×Int)):Rn:=⟨bq p q (aX p q sch x),(og p q sch x L).2.1⟩
noncomputable abbrev x8 (p:an) (q:aG) (sch x:List Int) (L:List (Nat×Int)):List Int:=vI (xz p q sch x) (xA p q sch x) L
structure xR (p:an) (q:aG) (sch x:List Int) (L:List (Nat×Int)):Prop where
 mon:L.Pairwise fun a b=>a.1<=b.1
 nod:L.Nodup
 sub:∀y∈L,y∈CX p sch
 ok:(og p q sch x L).2.2=0
theorem Bp (hz:(mj p q sch x).2.2=0):xR p q sch x (CX p sch):=⟨md _ _,ky (mS _ _) _ _,fun _ h=>h,hz⟩
theorem oh {L:List (Nat×Int)} (h:kP p q sch x number) (hz:xR p q sch x L):(og p q sch x L).2.1.length=(x8 p q sch x L).length/\ct p (kz p q sch x) (bq p q (aX p q sch x)) (og p q sch x L).2.1/\
  (cY p (bq p q (aX p q sch x)) (og p q sch x L).2.1).getD (og p q sch x L).2.1.length aU=(og p q sch x L).1/\x7 (bq p q (aX p q sch x)).correct (og p q sch x L).2.1 (x8 p q sch x L)=Je (xz p q sch x) (xA p q sch x) L:=by
 obtain⟨ys,a1,a2,a3,a4,a5⟩:=xP (p:=p) (s:=kz p q sch x) (t5:=xz p q sch x) (t6:=xA p q sch x) L (bq p q (aX p q sch x)) [] h.sol.rdy hz.ok
 have e:(og p q sch x L).2.1=ys:=a1
 rw[e]
 exact⟨a2,a3,a4,a5⟩
theorem vK (h:kP p q sch x number) {kind:Int} {j:Nat} {r:Int} (h0:0<gY (ak p q sch) x kind j r):(⟨kind,j,r⟩:Vb)∈ak p q sch:=by
 rw[kw (bu h.sol.prp sch)] at h0
 by_cases e:(⟨kind,j,r⟩:Vb)∈ak p q sch
 ·exact e
 ·rw[if_neg e] at h0;omega
theorem vL {L:List (Nat×Int)} (h:kP p q sch x number) (hz:xR p q sch x L):dy p q (kz p q sch x) (me p q sch x L) sch (x8 p q sch x L):=by
 obtain⟨a1,a2,a3,a4⟩:=oh h hz
 have hl:=vu h.sol.thr h.sol.rdy a2
 have hp0:=n6 h.sol.rdy
 have hst:((bq p q (aX p q sch x)).states.length:Int)=gk p (kz p q sch x):=h.sol.rdy.vc.len
 have hsz:(1<=(kz p q sch x).n/\(kz p q sch x).n<=8)/\0<=(kz p q sch x).f/\(kz p q sch x).f<=(kz p q sch x).n:=h.sol.rdy.sz
 have hm:gk p (kz p q sch x)<=8:=by unfold gk;split<;>omega
 have hmn:=CV (t5:=xz p q sch x) (t6:=xA p q sch x) hz.mon
 refine⟨h.sol.prp,h.sol.thr,h.sol.rdy,a2,Jg h,?_,?_,h.sol.scm,fun k hk=>?_,fun k hk=>?_,fun k hk=>?_⟩
 ·show(og p q sch x L).2.1.length<=48
  omega
 ·show(bq p q (aX p q sch x)).states.length<=8
  omega
 ·have hk:k<(og p q sch x L).2.1.length:=hk
  rw[<-vH (c:=(me p q sch x L).start) (xs:=(me p q sch x L).steps) a1 hk]
  have hlen:=qp (K:=(bq p q (aX p q sch x)).correct) a1
  have hm:=aB dU (l:=x7 (bq p q (aX p q sch x)).correct (og p q sch x L).2.1 (x8 p q sch x L)) (k:=k) (by omega)
  have hm2:=hm
  rw[a4] at hm2
  obtain⟨y,hy,hv⟩:=Jf hm2
  show(x7 (bq p q (aX p q sch x)).correct (og p q sch x L).2.1 (x8 p q sch x L)).getD k dU∈_
  rw[a4]
  rcases hv with ⟨e,hv⟩|⟨e,hv⟩
  ·rw[e];exact vK h hv
  ·rw[e];exact vK h hv
 ·have hk:k<(og p q sch x L).2.1.length:=hk
  obtain⟨y,hy,e⟩:=xQ (aB 0 (l:=x8 p q sch x L) (k:=k) (by omega))
  have:=(fN.1 (hz.sub y hy)).1
  rw[e]
  omega
 ·have hk:k+1<(og p q sch x L).2.1.length:=hk
  have hl1:k<(x8 p q sch x L).length:=by omega
  have hl2:k+1<(x8 p q sch x L).length:=by omega
  have:=List.pairwise_iff_getElem.1 hmn k (k+1) hl1 hl2 (by omega)
  rw[av 0 hl1,av 0 hl2]
  exact this
theorem zD {L:List (Nat×Int)} (h:kP p q sch x number) (hz:xR p q sch x L):∀v∈ak p q sch,fx (kz p q sch x) (me p q sch x L) (x8 p q sch x L) v=if v.kind<5\/(v.seg.toNat,v.idx)∈L then aX p q sch x v else 0:=by
 intro v hv
 obtain⟨a1,a2,a3,a4⟩:=oh h hz
 have hp:=h.pos v hv
 have hk:=iB h.sol.prp hv
 have hpar:v.kind<3->fx (kz p q sch x) (me p q sch x L) (x8 p q sch x L) v=pL (kz p q sch x) v:=fun hh=>qo hh
 have hvv:=aL (aF h.sol.prp).vld
 have n3:(bw p q).Nodup:=by
  unfold bw
  split
  ·exact ij (aF h.sol.prp).start
  ·exact ij hvv.ini.1
 have n4:p.initial.Nodup:=ij hvv.ini.1
 unfold Ih at hk
 rcases hk with (rfl|rfl|rfl)|⟨hk,hs,_⟩|⟨hk,hs,hi⟩
 ·rw[hpar (by decide),if_pos (.inl (by decide))];simp[pL,ew]
 ·rw[hpar (by decide),if_pos (.inl (by decide))];simp[pL,ew]
 ·rw[hpar (by decide),if_pos (.inl (by decide))];simp[pL,ew]
 ·have h3:=tL h
  have es:(bq p q (aX p q sch x)).states=gq (aX p q sch x) 3 (bw p q)++(if jC p then gq (aX p q sch x) 4 p.initial else[]):=rfl
  have hc:=J0 (bq p q (aX p q sch x)) v.idx (bq p q (aX p q sch x)).states.length
  have hb:=vJ (bq p q (aX p q sch x)).correct v.idx (bq p q (aX p q sch x)).states _ (Nat.le_refl _)
  have ht:=od (K:=(bq p q (aX p q sch x)).correct) (by omega) v.idx (l:=(bq p q (aX p q sch x)).states) _ (Nat.le_refl _)
  have hll:(bq p q (aX p q sch x)).correct.toNat<=(bq p q (aX p q sch x)).states.length:=by rw[es,List.length_append];omega
  have htk:(bq p q (aX p q sch x)).states.take (bq p q (aX p q sch x)).correct.toNat=gq (aX p q sch x) 3 (bw p q):=by
   rw[es,List.take_append_of_le_length (by omega),List.take_of_length_le (by omega)]
  rw[Nat.min_eq_right hll,htk,po n3] at ht
  rw[List.take_length,es,List.count_append,po n3] at hb
  rw[<-es] at hb
  rw[if_pos (.inl (by omega))]
  unfold fx ml
  rw[GN (by omega),GL (by omega)]
  show 0+cS (bq p q (aX p q sch x)) v (bq p q (aX p q sch x)).states.length+0=_
  rcases hk with hk|⟨hk,hw⟩
  ·have e:v=⟨3,0,v.idx⟩:=kj hk hs rfl
   rw[e] at hv
   have hm:=ma.1 hv
   rw[if_pos hm] at ht
   rw[e]
   rw[hc.1,ht]
   rw[<-e]
   omega
  ·have e:v=⟨4,0,v.idx⟩:=kj hk hs rfl
   rw[e] at hv
   have hm:=(n5.1 hv).2
   rw[if_pos hw,po n4,if_pos hm] at hb
   rw[e]
   rw[hc.2]
   rw[<-e] at hb⊢
   omega
 ·have hvl:=(aF h.sol.prp).vld
  have hn:=bu h.sol.prp sch
  have hcnt:=CW (t5:=xz p q sch x) (t6:=xA p q sch x) hz.nod v.seg.toNat v.idx
  rw[Int.toNat_of_nonneg hs.1] at hcnt
  have hcT:=xO (c:=bq p q (aX p q sch x)) v a1 _ (Nat.le_refl _)
  have hlen:=qp (K:=(bq p q (aX p q sch x)).correct) a1
  rw[List.take_of_length_le (by omega),a4] at hcT
  unfold fx ml
  rw[GN (by omega),GM (by omega)]
  show 0+0+cT (bq p q (aX p q sch x)) (og p q sch x L).2.1 (x8 p q sch x L) v (og p q sch x L).2.1.length=_
  rw[hcT]
  rcases hk with hk|⟨hk,_⟩
  ·have e:v=⟨5,v.seg,v.idx⟩:=kj hk rfl rfl
   have ht:xz p q sch x v.seg.toNat v.idx=aX p q sch x v:=by
    show gY (ak p q sch) x 5 (v.seg.toNat:Int) v.idx=_
    rw[Int.toNat_of_nonneg hs.1,kw hn,<-e,if_pos hv]
   have hc5:=hcnt.1
   rw[<-e,ht] at hc5
   rw[hc5]
   by_cases hm:(v.seg.toNat,v.idx)∈L
   ·rw[if_pos hm,if_pos (.inr hm)];omega
   ·rw[if_neg hm,if_neg (fun hh=>hh.elim (fun hh=>by omega) hm)];omega
  ·have e:v=⟨6,v.seg,v.idx⟩:=kj hk rfl rfl
   have ht:xA p q sch x v.seg.toNat v.idx=aX p q sch x v:=by
    show gY (ak p q sch) x 6 (v.seg.toNat:Int) v.idx=_
    rw[Int.toNat_of_nonneg hs.1,kw hn,<-e,if_pos hv]
   have hc6:=hcnt.2
   rw[<-e,ht] at hc6
   rw[hc6]
   by_cases hm:(v.seg.toNat,v.idx)∈L
   ·rw[if_pos hm,if_pos (.inr hm)];omega
   ·rw[if_neg hm,if_neg (fun hh=>hh.elim (fun hh=>by omega) hm)];omega
theorem sj (h:kP p q sch x number) (hz:(mj p q sch x).2.2=0):dy p q (kz p q sch x) (vT p q sch x) sch (Mk p q sch x):=vL h (Bp hz)
theorem zE (h:kP p q sch x number) (hz:(mj p q sch x).2.2=0):∀v∈ak p q sch,fx (kz p q sch x) (vT p q sch x) (Mk p q sch x) v=aX p q sch x v:=by
 intro v hv
 have e:fx (kz p q sch x) (vT p q sch x) (Mk p q sch x) v=_:=zD h (Bp hz) v hv
 rw[e,if_pos]
 have hk:=iB h.sol.prp hv
 unfold Ih at hk
 rcases hk with (rfl|rfl|rfl)|⟨hk,hs,_⟩|⟨hk,hs,hi⟩
 ·exact .inl (by decide)
 ·exact .inl (by decide)
 ·exact .inl (by decide)
 ·exact .inl (by omega)
 ·exact .inr (fN.2 ⟨⟨Nat.zero_le _,by dsimp only;omega⟩,(oe (aF h.sol.prp).vld (r:=v.idx)).2 hi⟩)
theorem mT {c a b:Co}:∀{l:List Vb},(∀v∈l,a v=b v)->bk c a l=bk c b l
 |[],_=>rfl
 |v::l,h=>by rw[bk,bk,h v List.mem_cons_self,mT (l:=l) fun y hy=>h y (List.mem_cons_of_mem _ hy)]
theorem Bq (h:kP p q sch x number) (hz:(mj p q sch x).2.2=0) (hn:0<=number):∀w∈gS p q sch.length number.toNat,0<=w.2+bk w.1 (fx (kz p q sch x) (vT p q sch x) (Mk p q sch x)) (ak p q sch):=fun w hw=>by
 rw[mT (zE h hz)]
 refine h.row w ?_
 unfold fg
 rw[if_pos hn]
 exact List.mem_append_right _ hw
theorem tM {s:aJ} {c:az} (hp:aP p q=0) (h:dx p s c):pT p q s=0:=by
 unfold pT
 rw[if_neg (fun y=>y hp)]
 exact mN h
theorem CY (h:kP p q sch x number) (hz:(mj p q sch x).2.2=0) (hn:0<=number) (hq:q.kind=1):CN p q (kz p q sch x) (vT p q sch x):=by
 have hk:=sj h hz
 exact⟨tM hk.prp hk.rdy,hq,hk.ini,hk.run,Jd hk hq (Bq h hz hn)⟩
theorem GO (h:kP p q sch x number) (hz:(mj p q sch x).2.2=0) (hn:0<=number) (hq:q.kind=2) (hg:ji p q):CO p q (kz p q sch x) (kJ q) ⟨(vT p q sch x).start,(vT p q sch x).steps,[]⟩:=by
 have hk:=sj h hz
 obtain⟨b1,b2⟩:=GI hk hq (Bq h hz hn)
 refine⟨tM hk.prp hk.rdy,hq,hk.ini,hk.run,fun d hd hy=>b1 (Bn hk.thr hq hg hk.run ⟨d,hd,hy⟩),trivial,rfl,fun d hd=>?_,fun i j hi _=>.inr ⟨_,kx,b2 i j hi⟩⟩
 have e:d=dl p (vT p q sch x) (vT p q sch x).steps.length:=List.mem_singleton.1 hd
 rw[e]
 exact b1
def Db:Co:=fun v=>if 5<=v.kind then 1 else 0
theorem CZ (h:kP p q sch x number) (hz:(mj p q sch x).2.2=0):bk Db (aX p q sch x) (ak p q sch)=((mj p q sch x).2.1.length:Int):=by
 have hk:=sj h hz
 have e0:∀v:Vb,v.kind<5->Db v=0:=fun v hv=>if_neg (by omega)
 rw[<-mT (zE h hz),vE hk,e0 _ (by decide),e0 _ (by decide),e0 _ (by decide),gN (f:=fun i=>Db (fV (vT p q sch x).start i)) fun i _=>e0 _ (by unfold fV;dsimp only;split<;>omega),
  cK (f:=fun k=>Db (lJ (vT p q sch x).start (vT p q sch x).steps (Mk p q sch x) k)) (g:=fun _=>1) fun k _=>if_pos (by unfold lJ;dsimp only;split<;>omega),vy]
 show _=((vT p q sch x).steps.length:Int)
 omega
theorem Nw {x:List Int} (hn:(ak p q sch).Nodup) {i:Nat} (hi:i<(ak p q sch).length):bk Db (aX p q sch x) ((ak p q sch).take (i+1))=bk Db (aX p q sch x) ((ak p q sch).take i)+if 5<=((ak p q sch).getD i dU).kind then x.getD i 0 else 0:=by
 rw[ba dU hi,ja]
 have e:=pH hn x hi
 show _+(Db ((ak p q sch).getD i dU)*aX p q sch x ((ak p q sch).getD i dU)+0)=_
 rw[show aX p q sch x ((ak p q sch).getD i dU)=x.getD i 0 from e]
 unfold Db
 split<;>omega
theorem Nx {a:Co}:∀{l:List Vb},(∀v∈l,0<=a v/\a v<=1048576)->0<=bk Db a l/\bk Db a l<=1048576*l.length
 |[],_=>⟨Int.le_refl _,Int.le_refl _⟩
 |v::l,h=>by
  have ih:=Nx (l:=l) fun y hy=>h y (List.mem_cons_of_mem _ hy)
  have hv:=h v List.mem_cons_self
  have e:Db v=if 5<=v.kind then 1 else 0:=rfl
  rw[bk,List.length_cons,e]
  split<;>omega
end
end Go.Proofs.YtekmminpfhacpaaGreatDoor
namespace Go.Proofs.YtekmminpfhacpaaGreatDoor
set_option maxRecDepth 100000
set_option maxHeartbeats 4000000
theorem GP {c b:Co} {v0:Vb}:∀{l:List Vb},(∀v∈l,c v*b v<=0)->v0∈l->bk c b l<=c v0*b v0
 |v::l,h,hm=>by
  rw[bk]
  have hz:∀{m:List Vb},(∀v∈m,c v*b v<=0)->bk c b m<=0:=fun{m} hm=>by
   induction m with
   |nil=>exact Int.le_refl _
   |cons w m ih=>
    rw[bk]
    have:=ih fun y hy=>hm y (List.mem_cons_of_mem _ hy)
    have:=hm w List.mem_cons_self
    omega
  rcases List.mem_cons.1 hm with rfl|hm
  ·have:=hz fun y hy=>h y (List.mem_cons_of_mem _ hy)
   omega
  ·have a:=GP (l:=l) (fun y hy=>h y (List.mem_cons_of_mem _ hy)) hm
   have:=h v List.mem_cons_self
   omega
theorem tO {c a b:Co}:∀l:List Vb,bk c a l=bk c b l+bk c (fun v=>a v-b v) l
 |[]=>rfl
 |v::l=>by
  rw[bk,bk,bk,tO (c:=c) (a:=a) (b:=b) l,Int.mul_sub]
  omega
theorem xS {c a b:Co}:∀{l:List Vb},(∀v∈l,c v*a v=c v*b v)->bk c a l=bk c b l
 |[],_=>rfl
 |v::l,h=>by rw[bk,bk,h v List.mem_cons_self,xS (l:=l) fun y hy=>h y (List.mem_cons_of_mem _ hy)]
theorem GQ {f:Nat->Int}:∀{n:Nat},(∀i,i<n->f i<=1)->di f n<=n
 |0,_=>Int.le_refl _
 |n+1,h=>by
  have a:=GQ (n:=n) fun i hi=>h i (by omega)
  have b:=h n (by omega)
  rw[di];omega
theorem Br (l:List Int) (y:Int):∀(n i:Nat),(mi l y n i:Int)=di (fun k=>if l.getD (i+k) 0=y then 1 else 0) n
 |0,_=>rfl
 |n+1,i=>by
  have sh:∀(f:Nat->Int) (n:Nat),di f (n+1)=f 0+di (fun k=>f (k+1)) n:=fun f n=>by
   induction n with
   |zero=>simp[di]
   |succ n ih=>
    rw[di,ih,di]
    omega
  rw[mi,sh,Int.natCast_add,Br l y n (i+1)]
  congr 1
  ·rw[Nat.add_zero];split<;>rfl
  ·exact cK fun k _=>by rw[show i+1+k=i+(k+1) by omega]
theorem Bs (f:Nat->Int) (m:Nat):∀n,di f (m+n)=di f m+di (fun k=>f (m+k)) n
 |0=>by rw[Nat.add_zero,di];omega
 |n+1=>by
  rw[<-Nat.add_assoc,di,Bs f m n,di]
  omega
theorem Bt {l:List Int} {K:Int} (h0:0<=K) (hK:K.toNat<=l.length) (y:Int) (f:Bool):(AY l K.toNat l.length f y:Int)=mc K (!f) y l l.length:=by
 have e:=Bs (fun i=>if decide ((i:Int)<K)=(!f)/\l.getD i 0=y then(1:Int) else 0) K.toNat (l.length-K.toNat)
 rw[Nat.add_sub_cancel' hK] at e
 unfold AY mc
 rw[Br,e]
 cases f
 ·rw[gN (f:=fun k=>if decide (((K.toNat+k:Nat):Int)<K)=(!false)/\l.getD (K.toNat+k) 0=y then(1:Int) else 0) fun k _=>if_neg fun h=>by
   have:=h.1
   simp at this
   omega]
  rw[Int.add_zero]
  show di _ K.toNat=_
  refine cK fun k hk=>?_
  show(if l.getD (0+k) 0=y then(1:Int) else 0)=_
  have:(k:Int)<K:=by omega
  rw[Nat.zero_add]
  simp[this]
 ·rw[gN (f:=fun i=>if decide ((i:Int)<K)=(!true)/\l.getD i 0=y then(1:Int) else 0) fun k hk=>if_neg fun h=>by
   have:=h.1
   simp at this
   omega]
  rw[Int.zero_add]
  show di _ (l.length-K.toNat)=_
  refine cK fun k hk=>?_
  show(if l.getD (K.toNat+k) 0=y then(1:Int) else 0)=_
  have:¬((K.toNat+k:Nat):Int)<K:=by omega
  simp only[this]
  simp
def Ou (p:an) (a b:Nat×Int):Prop:=a.1<b.1\/(a.1=b.1/\bU p a.2<=bU p b.2)
theorem GR (p:an) (n:Nat):(hJ p.rules n).Pairwise fun a b=>bU p a<=bU p b:=by
 have key:∀(x:Nat) (a:Int),a∈((List.range p.rules.length).filter fun r=>decide ((p.rules.getD r ap).src=(x:Int))).map (fun r:Nat=>(r:Int))->bU p a=x:=fun x a ha=>by
  obtain⟨i,hi,rfl⟩:=List.mem_map.1 ha
  have h1:=(List.mem_filter.1 hi).2
  rw[decide_eq_true_eq] at h1
  unfold bU
  rw[tN]
  exact h1
 unfold hJ
 rw[List.pairwise_flatMap]
 refine⟨fun x _=>List.pairwise_iff_getElem.2 fun i j hi hj _=>?_,?_⟩
 ·rw[key x _ (List.getElem_mem hi),key x _ (List.getElem_mem hj)]
  exact Int.le_refl _
 ·refine(List.pairwise_lt_range (n:=n)).imp fun{a b} hab x hx y hy=>?_
  rw[key a x hx,key b y hy]
  omega
theorem xT (p:an) {ord:List Int} (h:ord.Pairwise fun a b=>bU p a<=bU p b):∀n j,(jJ ord n j).Pairwise (Ou p)
 |0,j=>List.Pairwise.nil
 |n+1,j=>by
  rw[jJ,List.pairwise_append]
  refine⟨List.pairwise_map.2 (h.imp fun{a b} hab=>.inr ⟨rfl,hab⟩),xT p h n (j+1),fun a ha b hb=>?_⟩
  obtain⟨r,_,rfl⟩:=List.mem_map.1 ha
  have:=(fN.1 hb).1
  exact .inl (by dsimp only;omega)
theorem xU {p:an} {s:aJ} {t5 t6:Nat->Int->Int}:∀(L1 L2:List (Nat×Int)) (c:az) (xs:List bH),(jK p s t5 t6 L1 c xs).2.2=0->jK p s t5 t6 (L1++L2) c xs=jK p s t5 t6 L2 (jK p s t5 t6 L1 c xs).1 (jK p s t5 t6 L1 c xs).2.1
 |[],L2,c,xs,_=>rfl
 |(i,ri)::L1,L2,c,xs,h=>by
  rw[List.cons_append,jL,jL] at*
  by_cases h1:(fU p s c ri (t5 i ri).toNat (t6 i ri).toNat).2.2≠0
  ·rw[if_pos h1] at h;exact absurd h h1
  rw[if_neg h1] at h⊢
  rw[if_neg h1]
  exact xU L1 L2 _ _ h
section
variable {p:an} {q:aG} {sch x:List Int} {number:Int}
theorem Bu {L1 L2:List (Nat×Int)} {j:Nat} {r:Int} (h:kP p q sch x number) (hz:xR p q sch x L1) (hL:CX p sch=L1++(j,r)::L2) {start fire:Int} {b:Bool} (hs:start=3/\fire=5/\b=true\/start=4/\fire=6/\b=false) (hv0:(⟨fire,j,r⟩:Vb)∈ak p q sch):
  aX p q sch x ⟨fire,j,r⟩<=mc (bq p q (aX p q sch x)).correct b (bU p r) (og p q sch x L1).1.states (bq p q (aX p q sch x)).states.length:=by
 have hk:=vL h hz
 have hX:=zD h hz
 have hvl:=(aF h.sol.prp).vld
 have hfin:=oh h hz
 have hmem:(j,r)∈CX p sch:=by rw[hL];simp
 obtain⟨⟨_,hj⟩,hr⟩:=fN.1 hmem
 dsimp only at hj hr
 have hri:=oe hvl |>.1 hr
 have hord:=xT p (GR p p.states.length) (sch.length+1) 0
 have hnd:=ky (mS p.rules p.states.length) (sch.length+1) 0
 rw[show jJ (hJ p.rules p.states.length) (sch.length+1) 0=L1++(j,r)::L2 from hL] at hord hnd
 obtain⟨_,ho2,ho3⟩:=List.pairwise_append.1 hord
 obtain⟨ho4,_⟩:=List.pairwise_cons.1 ho2
 have hsr:=qd hvl r.toNat (by omega)
 rw[uU] at hsr
 have hsrc:bU p r=(p.rules.getD r.toNat ap).src:=rfl
 have hx0:0<=bU p r/\bU p r<p.states.length:=hsr
 have hnot:(j,r)∉L1:=fun hm=>by
  have:=(List.nodup_append.1 hnd).2.2 _ hm _ List.mem_cons_self
  exact this rfl
 have hle:∀y∈L1,y.1<=j:=fun y hy=>by
  have:=ho3 y hy _ List.mem_cons_self
  unfold Ou at this
  dsimp only at this
  omega
 have hw:start=3\/start=4/\jC p:=by
  have:=iB h.sol.prp hv0
  unfold Ih at this
  rcases hs with ⟨rfl,rfl,rfl⟩|⟨rfl,rfl,rfl⟩
  ·exact .inl rfl
  ·refine .inr ⟨rfl,?_⟩
   rcases this with (e|e|e)|⟨e,_⟩|⟨e,_⟩
   ·have:=congrArg Vb.kind e;dsimp only at this;omega
   ·have:=congrArg Vb.kind e;dsimp only at this;omega
   ·have:=congrArg Vb.kind e;dsimp only at this;omega
   ·dsimp only at e;omega
   ·dsimp only at e
    rcases e with e|e
    ·omega
    ·exact e.2
 have hrow:=h.row (nD p start fire (bU p r).toNat j) (by
  unfold fg
  refine List.mem_append_left _ (List.mem_append_right _ (List.mem_flatMap.2 ⟨j,List.mem_range.2 (by omega),?_⟩))
  unfold ko
  rcases hs with ⟨rfl,rfl,rfl⟩|⟨rfl,rfl,rfl⟩
  ·exact List.mem_append_left _ (List.mem_append_right _ (List.mem_map.2 ⟨_,List.mem_range.2 (by omega),rfl⟩))
  ·refine List.mem_append_right _ ?_
   rw[if_pos (hw.resolve_left (by decide)).2]
   exact List.mem_map.2 ⟨_,List.mem_range.2 (by omega),rfl⟩)
 unfold nD at hrow
 dsimp only at hrow
 rw[bj,iL,Int.toNat_of_nonneg hx0.1,tO (b:=fx (kz p q sch x) (me p q sch x L1) (x8 p q sch x L1)),
  jk hk (b:=b) hs (m:=(me p q sch x L1).steps.length) (Nat.le_refl _) (fun k hkk=>⟨fun _=>hkk,fun _=>by
   have hkk:k<(og p q sch x L1).2.1.length:=hkk
   obtain⟨y,hy,e⟩:=xQ (aB 0 (l:=x8 p q sch x L1) (k:=k) (by rw[<-hfin.1];exact hkk))
   have:=hle y hy
   rw[e]
   omega⟩)] at hrow
 have hcf:dl p (me p q sch x L1) (me p q sch x L1).steps.length=(og p q sch x L1).1:=hfin.2.2.1
 rw[hcf] at hrow
 have hrest:∀v∈ak p q sch,aX p q sch x v-fx (kz p q sch x) (me p q sch x L1) (x8 p q sch x L1) v=if v.kind<5\/(v.seg.toNat,v.idx)∈L1 then 0 else aX p q sch x v:=fun v hv=>by
  rw[hX v hv]
  split<;>omega
 have hdst:=(h.sol.thr.2.2 r.toNat (by omega)).2.1
 have hA:cn p.rules start fire (bU p r) (j+1) 0 ⟨fire,j,r⟩=-1:=by
  unfold cn JM
  dsimp only
  rw[if_neg (fun e=>by have:=congrArg Vb.kind e;dsimp only at this;omega),if_pos ⟨rfl,by dsimp only;omega,by dsimp only;omega, .inl ⟨by dsimp only;omega,by dsimp only;omega⟩⟩,hsrc,if_neg (by omega),if_pos rfl]
  rfl
 have hlast:=GP (c:=cn p.rules start fire (bU p r) (j+1) 0) (b:=fun v=>aX p q sch x v-fx (kz p q sch x) (me p q sch x L1) (x8 p q sch x L1) v) (v0:=⟨fire,j,r⟩) (l:=ak p q sch) (fun v hv=>by
  rw[hrest v hv]
  by_cases hin:v.kind<5\/(v.seg.toNat,v.idx)∈L1
  ·rw[if_pos hin];omega
  rw[if_neg hin]
  have hpos:=(h.pos v hv).1
  have hk5:5<=v.kind:=by omega
  have hkd:=iB h.sol.prp hv
  have hc:cn p.rules start fire (bU p r) (j+1) 0 v<=0:=by
   unfold cn
   rw[if_neg (fun e=>by have:=congrArg Vb.kind e;dsimp only at this;omega)]
   by_cases hf:fJ p.rules.length fire (j+1) 0 v
   rotate_left
   ·rw[if_neg hf];decide
   rw[if_pos hf]
   obtain⟨f1,f2,f3,f4⟩:=hf
   have hvm:(v.seg.toNat,v.idx)∈(j,r)::L2:=by
    have hm2:(v.seg.toNat,v.idx)∈CX p sch:=fN.2 ⟨⟨Nat.zero_le _,by dsimp only;omega⟩,(oe hvl).2 (by omega)⟩
    rw[hL] at hm2
    exact(List.mem_append.1 hm2).resolve_left fun hh=>hin (.inr hh)
   have hsv:bU p r<=bU p v.idx:=by
    rcases List.mem_cons.1 hvm with e|hm2
    ·have e2:v.idx=r:=congrArg Prod.snd e
     rw[e2]
     exact Int.le_refl _
    ·have:=ho4 _ hm2
     unfold Ou at this
     dsimp only at this
     omega
   have hdv:=(h.sol.thr.2.2 v.idx.toNat (by omega)).2.1
   have hsv2:bU p v.idx=(p.rules.getD v.idx.toNat ap).src:=rfl
   unfold JM
   rw[if_neg (by omega)]
   split<;>omega
  have:=Int.mul_nonpos_of_nonpos_of_nonneg hc hpos
  exact this) hv0
 rw[hA,hrest _ hv0,if_neg (fun hh=>hh.elim (fun hh=>by dsimp only at hh;omega) (by dsimp only;rw[tN];exact hnot))] at hlast
 show _<=mc (me p q sch x L1).start.correct b (bU p r) (og p q sch x L1).1.states (me p q sch x L1).start.states.length
 omega
theorem Jh {s:aJ} {r:Rn} {seg:List Int} (hk:dy p q s r sch seg) {g:ez} (h0:0<=g.message) {j m:Nat} (hm:m<=r.steps.length) (hc:∀k,k<r.steps.length->(seg.getD k 0<((j:Nat):Int)↔k<m)):
  (km p g j).2+bk (km p g j).1 (fx s r seg) (ak p q sch)=g.coef*lC p s (dl p r m) g.message-fX g.bound s:=by
 have hn:lC p s (dl p r m) g.message=(dl p r m).sent.getD g.message.toNat 0+(dl p r m).faulty.getD g.message.toNat 0+(if p.fault=3 then s.f else 0):=by
  unfold lC
  by_cases hw:p.fault=1\/p.fault=2
  ·rw[if_pos hw,if_neg (by omega)];omega
  ·rw[if_neg hw,xL hk hm hw];omega
 have hnd:=bu hk.prp sch
 have h2m:(⟨2,0,0⟩:Vb)∈ak p q sch:=by unfold ak;simp
 have f5:bk (bT p.rules 5 g.message j 0) (fx s r seg) (ak p q sch)=(dl p r m).sent.getD g.message.toNat 0:=gT hk (fire:=5) (b:=true) (.inl ⟨rfl,rfl⟩) h0 hm hc
 have f6:bk (bT p.rules 6 g.message j 0) (fx s r seg) (ak p q sch)=(dl p r m).faulty.getD g.message.toNat 0:=gT hk (fire:=6) (b:=false) (.inr ⟨rfl,rfl⟩) h0 hm hc
 rw[hn,Int.mul_add,Int.mul_add]
 unfold km fX
 dsimp only
 by_cases h3:p.fault=3
 ·rw[if_pos h3,if_pos h3,bj,xK hnd h2m,bj,bj,iL,f5,f6,jl,I8]
  omega
 ·rw[if_neg h3,if_neg h3,bj,bj,bj,iL,f5,f6,jl]
  omega
theorem Ji {L1 L2:List (Nat×Int)} {j:Nat} {r:Int} (h:kP p q sch x number) (hz:xR p q sch x L1) (hL:CX p sch=L1++(j,r)::L2) {m:Nat} (hm:m<j):
  ∃i:Nat,i<(ax p.rules).length/\sch.getD m 0=i/\jH p (kz p q sch x) (og p q sch x L1).1 i:=by
 have hk:=vL h hz
 have hX:=zD h hz
 have hvl:=(aF h.sol.prp).vld
 have hfin:=oh h hz
 have hmem:(j,r)∈CX p sch:=by rw[hL];simp
 obtain⟨⟨_,hj⟩,hr⟩:=fN.1 hmem
 dsimp only at hj hr
 have hord:=md (ord:=hJ p.rules p.states.length) (sch.length+1) 0
 rw[show jJ (hJ p.rules p.states.length) (sch.length+1) 0=L1++(j,r)::L2 from hL] at hord
 obtain⟨_,ho2,_⟩:=List.pairwise_append.1 hord
 obtain⟨ho4,_⟩:=List.pairwise_cons.1 ho2
 have hsc:=(h.sol.scm m (by omega)).1
 obtain⟨i,hi⟩:∃i:Nat,sch.getD m 0=i:=⟨(sch.getD m 0).toNat,by omega⟩
 have hil:i<(ax p.rules).length:=by omega
 refine⟨i,hil,hi,?_⟩
 have hT:=o9 hvl (aB aC hil)
 have hrow:=h.row (km p ((ax p.rules).getD i aC) (m+1)) (by
  unfold fg
  refine List.mem_append_left _ (List.mem_append_right _ (List.mem_flatMap.2 ⟨m+1,List.mem_range.2 (by omega),?_⟩))
  unfold ko
  refine List.mem_append_left _ (List.mem_append_left _ ?_)
  rw[if_pos (Nat.succ_pos m),Nat.add_sub_cancel,hi,tN]
  exact List.mem_singleton.2 rfl)
 obtain⟨m',hm',hc⟩:=GD hk ((m+1:Nat):Int)
 rw[xS (b:=fx (kz p q sch x) (me p q sch x L1) (x8 p q sch x L1)) fun v hv=>by
  rw[hX v hv]
  by_cases hin:v.kind<5\/(v.seg.toNat,v.idx)∈L1
  ·rw[if_pos hin]
  rw[if_neg hin]
  have hkd:=iB h.sol.prp hv
  have hk5:5<=v.kind:=by omega
  have hs0:∀fire msg:Int,bT p.rules fire msg (m+1) 0 v=0:=fun fire msg=>by
   unfold bT
   rw[if_neg]
   rintro⟨⟨f1,f2,f3,f4⟩,_⟩
   have hm2:(v.seg.toNat,v.idx)∈CX p sch:=fN.2 ⟨⟨Nat.zero_le _,by dsimp only;omega⟩,(oe hvl).2 (by omega)⟩
   rw[hL] at hm2
   rcases List.mem_cons.1 ((List.mem_append.1 hm2).resolve_left fun hh=>hin (.inr hh)) with e|hm3
   ·have e2:v.seg.toNat=j:=congrArg Prod.fst e
    omega
   ·have:=ho4 _ hm3
    dsimp only at this
    omega
  have hl0:∀l:kG,fT l v=0:=fun l=>rY (by omega)
  have hz0:(km p ((ax p.rules).getD i aC) (m+1)).1 v=0:=by
   unfold km
   dsimp only
   have hne:v≠⟨2,0,0⟩:=fun e=>by subst e;dsimp only at hk5;omega
   split
   ·unfold cl
    rw[l0 _ _ hne,hl0,hs0,hs0]
    simp[zC]
   ·unfold cl
    rw[hl0,hs0,hs0]
    simp[zC]
  rw[hz0,Int.zero_mul,Int.zero_mul]] at hrow
 rw[Jh hk hT.1.1 hm' hc] at hrow
 have hu:jH p (kz p q sch x) (dl p (me p q sch x L1) m') i:=by
  unfold jH
  omega
 have hu2:=vD hk.rdy hk.run hil hu (me p q sch x L1).steps.length hm' (Nat.le_refl _)
 have hcf:dl p (me p q sch x L1) (me p q sch x L1).steps.length=(og p q sch x L1).1:=hfin.2.2.1
 have hu3:jH p (kz p q sch x) (dl p (me p q sch x L1) (me p q sch x L1).steps.length) i:=hu2
 rw[hcf] at hu3
 exact hu3
theorem Jj {fire r:Int} {j:Nat} (hf:5<=fire) (hv:(⟨fire,j,r⟩:Vb)∈ak p q sch):yY (ax p.rules) sch j (p.rules.getD r.toNat ap):=by
 unfold ak pP at hv
 simp only[List.mem_append] at hv
 rcases hv with (h|h|h)|h
 ·simp only[List.mem_cons,List.not_mem_nil,or_false] at h
  rcases h with h|h|h<;>(have:=congrArg Vb.kind h;dsimp only at this;omega)
 ·obtain⟨y,hy,e⟩:=List.mem_map.1 h
  have:=congrArg Vb.kind e
  dsimp only at this
  omega
 ·split at h
  ·obtain⟨y,hy,e⟩:=List.mem_map.1 h
   have:=congrArg Vb.kind e
   dsimp only at this
   omega
  ·cases h
 ·obtain⟨j',_,h⟩:=List.mem_flatMap.1 h
  obtain⟨r',_,h⟩:=dp h
  have hh:=d4 h
  dsimp only at hh
  unfold rm at h
  split at h
  ·rename_i hA
   have e1:j'=j:=by omega
   have e2:r.toNat=r':=by omega
   rw[e2,<-e1]
   exact hA
  ·cases h
theorem xV {s:aJ} (ht:dZ p) {ri:Int} (hr:0<=ri/\ri<p.rules.length) (hsd:(p.rules.getD ri.toNat ap).send.Nodup) (hgc:∀g∈(p.rules.getD ri.toNat ap).guards,1<=g.coef) (f:Bool) (n:Nat) (c:az) (xs:List bH) (h:dx p s c) (h0:0<=c.correct) (hK:c.correct.toNat<=c.states.length)
  (hn:n<=AY c.states c.correct.toNat c.states.length f (bU p ri)) (hg:0<n->nw p s c (p.rules.getD ri.toNat ap) false) (h1:∀j,0<=c.sent.getD j 0/\c.sent.getD j 0+n<=1000000) (h2:∀j,0<=c.faulty.getD j 0/\c.faulty.getD j 0+n<=1000000):
  ∃d ys,dq p s ri (zt c.correct.toNat f) (CK c.correct.toNat c.states.length f) n c xs=(d,xs++ys,0)/\ys.length=n/\LI p s (p.rules.getD ri.toNat ap) f n c d:=by
 by_cases hn0:n=0
 ·subst hn0
  exact⟨c,[],by rw[List.append_nil];rfl,rfl,⟨h,rfl,rfl,fun y=>by simp,fun y=>rfl,fun j=>by simp,fun j=>by simp⟩⟩
 ·exact xy ht hr hsd hgc f n c xs h h0 hK hn (hg (by omega)) h1 h2
theorem L8 {s:aJ} {r:bo} {f:Bool} {n:Nat} {c d:az} (hgc:∀g∈r.guards,1<=g.coef) (h:LI p s r f n c d) (hg:nw p s c r false):nw p s d r false:=by
 intro k hk
 have a:=hg k hk
 have b:=hgc _ (aB aC hk)
 have e1:=h.sen (r.guards.getD k aC).message.toNat
 have e2:=h.fau (r.guards.getD k aC).message.toNat
 unfold nv at a⊢
 refine Int.le_trans a (Int.mul_le_mul_of_nonneg_left ?_ (by omega))
 have e3:c.sent.getD (r.guards.getD k aC).message.toNat 0<=d.sent.getD (r.guards.getD k aC).message.toNat 0:=by rw[e1];split<;>omega
 have e4:c.faulty.getD (r.guards.getD k aC).message.toNat 0<=d.faulty.getD (r.guards.getD k aC).message.toNat 0:=by rw[e2];split<;>omega
 unfold uC
 (repeat' split)<;>omega
theorem L9 {L1 L2:List (Nat×Int)} {j:Nat} {r:Int} (h:kP p q sch x number) (hz:xR p q sch x L1) (hL:CX p sch=L1++(j,r)::L2):
  (fU p (kz p q sch x) (og p q sch x L1).1 r (xz p q sch x j r).toNat (xA p q sch x j r).toNat).2.2=0:=by
 have hk:=vL h hz
 have hvl:=(aF h.sol.prp).vld
 have hn:=bu h.sol.prp sch
 have hfin:=oh h hz
 have hmem:(j,r)∈CX p sch:=by rw[hL];simp
 obtain⟨_,hr⟩:=fN.1 hmem
 dsimp only at hr
 have hri:=oe hvl |>.1 hr
 have hcf:dl p (me p q sch x L1) (me p q sch x L1).steps.length=(og p q sch x L1).1:=hfin.2.2.1
 have hrd:=mQ hk (Nat.le_refl _)
 obtain⟨ec,el⟩:=mR hk
 obtain⟨c0,_,c2,_⟩:=lK hk
 have hcn:∀(b:Bool) (m:Nat),0<=(CT b (dl p (me p q sch x L1) (me p q sch x L1).steps.length)).getD m 0/\(CT b (dl p (me p q sch x L1) (me p q sch x L1).steps.length)).getD m 0<=48:=fun b m=>by
  have e:=zx hk.thr hk.rdy hk.run b m (xJ hk b m) _ (Nat.le_refl _)
  have hl:=hk.len
  have g1:=vv (f:=JY p (me p q sch x L1).start.correct b m (me p q sch x L1).steps) (n:=(me p q sch x L1).steps.length) fun i _=>by unfold JY;split<;>omega
  have g2:=GQ (f:=JY p (me p q sch x L1).start.correct b m (me p q sch x L1).steps) (n:=(me p q sch x L1).steps.length) fun i _=>by unfold JY;split<;>omega
  rw[show(CT b (dl p (me p q sch x L1) (me p q sch x L1).steps.length)).getD m 0=_ from e]
  omega
 rw[hcf] at hrd ec el hcn
 have o5:∀hv:(⟨5,j,r⟩:Vb)∈ak p q sch,_:=Bu h hz hL (start:=3) (b:=true) (.inl ⟨rfl,rfl,rfl⟩)
 have o6:∀hv:(⟨6,j,r⟩:Vb)∈ak p q sch,_:=Bu h hz hL (start:=4) (b:=false) (.inr ⟨rfl,rfl,rfl⟩)
 have hgu:∀fire:Int,5<=fire->(⟨fire,j,r⟩:Vb)∈ak p q sch->nw p (kz p q sch x) (og p q sch x L1).1 (p.rules.getD r.toNat ap) false:=fun fire hf hv k hkk=>by
  obtain⟨m,hm,e⟩:=Jj hf hv _ (aB aC hkk)
  obtain⟨i,hi,ei,hu⟩:=Ji h hz hL hm
  rw[ei,tN] at e
  unfold jH at hu
  rw[e] at hu
  exact hu
 have t5b:=h.sol.five j r hr
 have t6b:=h.sol.six j r hr
 have t5v:0<(xz p q sch x j r).toNat->(⟨5,j,r⟩:Vb)∈ak p q sch:=fun hh=>vK h (show 0<gY (ak p q sch) x 5 j r by have:0<(gY (ak p q sch) x 5 j r).toNat:=hh;omega)
 have t6v:0<(xA p q sch x j r).toNat->(⟨6,j,r⟩:Vb)∈ak p q sch:=fun hh=>vK h (show 0<gY (ak p q sch) x 6 j r by have:0<(gY (ak p q sch) x 6 j r).toNat:=hh;omega)
 have t5a:(⟨5,j,r⟩:Vb)∈ak p q sch->xz p q sch x j r=aX p q sch x ⟨5,j,r⟩:=fun hv=>by
  show gY (ak p q sch) x 5 j r=_
  rw[kw hn,if_pos hv]
 have t6a:(⟨6,j,r⟩:Vb)∈ak p q sch->xA p q sch x j r=aX p q sch x ⟨6,j,r⟩:=fun hv=>by
  show gY (ak p q sch) x 6 j r=_
  rw[kw hn,if_pos hv]
 have n5b:(xz p q sch x j r).toNat<=8:=by
  have:xz p q sch x j r<=8:=t5b.2
  omega
 have n6b:(xA p q sch x j r).toNat<=8:=by
  have:xA p q sch x j r<=8:=t6b.2
  omega
 generalize xz p q sch x j r=T5 at*
 generalize xA p q sch x j r=T6 at*
 clear t5b t6b
 generalize (og p q sch x L1).1=c at*
 replace ec:c.correct=(bq p q (aX p q sch x)).correct:=ec
 replace el:c.states.length=(bq p q (aX p q sch x)).states.length:=el
 replace c0:0<=(bq p q (aX p q sch x)).correct:=c0
 replace c2:(bq p q (aX p q sch x)).correct<=(bq p q (aX p q sch x)).states.length:=c2
 have hc0:0<=c.correct:=by omega
 have hcK:c.correct.toNat<=c.states.length:=by omega
 have b5:=Bt hc0 hcK (bU p r) false
 have b6:=Bt hc0 hcK (bU p r) true
 rw[ec,el] at b5 b6
 have hrul:=cQ hvl (i:=r.toNat) (by omega)
 have hsd:=tK hrul (h.sol.thr.2.2 r.toNat (by omega)).1
 have hgc:∀g∈(p.rules.getD r.toNat ap).guards,1<=g.coef:=fun g hg=>(gn ((aL hvl).rul r.toNat (by omega)) hg).2.1.1
 have hs1:∀m,0<=c.sent.getD m 0/\c.sent.getD m 0<=48:=hcn true
 have hs2:∀m,0<=c.faulty.getD m 0/\c.faulty.getD m 0<=48:=hcn false
 obtain⟨d,ys,e1,e2,e3⟩:=xV h.sol.thr hri hsd hgc false T5.toNat c [] hrd hc0 hcK (by
  by_cases hh:0<T5.toNat
  ·have:=o5 (t5v hh)
   have:=t5a (t5v hh)
   rw[ec,el]
   simp only[Bool.not_false] at b5
   omega
  ·omega) (fun hh=>hgu 5 (by decide) (t5v hh)) (fun m=>⟨(hs1 m).1,by have:=(hs1 m).2;omega⟩) (fun m=>⟨(hs2 m).1,by have:=(hs2 m).2;omega⟩)
 have ed:=e3.cor
 have edl:=e3.len
 obtain⟨d2,zs,f1,f2,f3⟩:=xV h.sol.thr hri hsd hgc true T6.toNat d ys e3.rdy (by omega) (by omega) (by
  have ho:=e3.oth (bU p r)
  simp only[Bool.not_false] at ho
  rw[ed,edl,ho]
  by_cases hh:0<T6.toNat
  ·have:=o6 (t6v hh)
   have:=t6a (t6v hh)
   rw[ec,el]
   simp only[Bool.not_true] at b6
   omega
  ·omega) (fun hh=>L8 hgc e3 (hgu 6 (by decide) (t6v hh))) (fun m=>by have a:=e3.sen m;have b:=hs1 m;split at a<;>omega) (fun m=>by have a:=e3.fau m;have b:=hs2 m;split at a<;>omega)
 rw[ed,edl] at f1
 have e1':dq p (kz p q sch x) r 0 c.correct.toNat T5.toNat c []=(d,ys,0):=e1
 have f1':dq p (kz p q sch x) r c.correct.toNat c.states.length T6.toNat d ys=(d2,ys++zs,0):=f1
 unfold fU
 rw[e1',if_neg (fun y=>y rfl)]
 dsimp only
 rw[f1']
theorem vM (h:kP p q sch x number):(mj p q sch x).2.2=0:=by
 have hnd:=ky (mS p.rules p.states.length) (sch.length+1) 0
 have hmo:=md (ord:=hJ p.rules p.states.length) (sch.length+1) 0
 have key:∀(L2 L1:List (Nat×Int)),CX p sch=L1++L2->(og p q sch x L1).2.2=0->(og p q sch x (L1++L2)).2.2=0:=by
  intro L2
  induction L2 with
  |nil=>intro L1 _ h0;rwa [List.append_nil]
  |cons y L2 ih=>
   intro L1 hL h0
   obtain⟨j,r⟩:=y
   have hz:xR p q sch x L1:=by
    have hL':jJ (hJ p.rules p.states.length) (sch.length+1) 0=L1++(j,r)::L2:=hL
    rw[hL'] at hnd hmo
    exact⟨(List.pairwise_append.1 hmo).1,(List.nodup_append.1 hnd).1,fun y hy=>by rw[hL];exact List.mem_append_left _ hy,h0⟩
   have ha:=L9 h hz hL
   have:=ih (L1++[(j,r)]) (by rw[hL];simp) (by
    show(jK p (kz p q sch x) (xz p q sch x) (xA p q sch x) (L1++[(j,r)]) (bq p q (aX p q sch x)) []).2.2=0
    rw[xU _ _ _ _ h0,jL,if_neg (fun y=>y ha)]
    rfl)
   rw[List.append_assoc] at this
   exact this
 exact key (CX p sch) [] rfl rfl
end
end Go.Proofs.YtekmminpfhacpaaGreatDoor
