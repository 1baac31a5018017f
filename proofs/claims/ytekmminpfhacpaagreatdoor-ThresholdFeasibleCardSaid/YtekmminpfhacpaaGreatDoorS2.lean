import Derived.Test.YtekmminpfhacpaaGreatDoorS1
set_option linter.unusedVariables false
set_option linter.unusedSimpArgs false
namespace Go.Proofs.YtekmminpfhacpaaGreatDoor
section
set_option maxRecDepth 100000
set_option maxHeartbeats 16000000
set_option maxHeartbeats 4000000
def Ao (K:Int):List bX->List Int->List Vb
 |x::xs,j::js=>⟨if x.process<K then 5 else 6,j,x.rule⟩::Ao K xs js
 |[],_=>[]
 |_::_,[]=>[]
theorem xK {K:Int}:∀{xs:List bX} {js:List Int} {ys:List bX} {ks:List Int},xs.length=js.length->Ao K (xs++ys) (js++ks)=Ao K xs js++Ao K ys ks
 |[],[],_,_,_=>rfl
 |[],j::js,_,_,h=>by simp at h
 |x::xs,[],_,_,h=>by simp at h
 |x::xs,j::js,ys,ks,h=>by
  have ih:=xK (K:=K) (xs:=xs) (js:=js) (ys:=ys) (ks:=ks) (by simpa using h)
  simp only[List.cons_append,Ao,ih]
theorem sj {K:Int}:∀{xs:List bX} {js:List Int},xs.length=js.length->(Ao K xs js).length=xs.length
 |[],_,_=>rfl
 |x::xs,[],h=>by simp at h
 |x::xs,j::js,h=>by simp only[Ao,List.length_cons,sj (xs:=xs) (js:=js) (by simpa using h)]
theorem xL {c:aD}:∀{xs:List bX} {js:List Int} {k:Nat},xs.length=js.length->k<xs.length->(Ao c.correct xs js).getD k im=sd c xs js k
 |[],_,k,_,h=>by simp at h
 |x::xs,[],_,h,_=>by simp at h
 |x::xs,j::js,0,_,_=>rfl
 |x::xs,j::js,k+1,h,hk=>xL (xs:=xs) (js:=js) (k:=k) (by simpa using h) (by simpa using hk)
theorem zP {c:aD} {xs:List bX} {js:List Int} (v:Vb) (h:xs.length=js.length):∀n,n<=xs.length->cT c xs js v n=(((Ao c.correct xs js).take n).count v:Int)
 |0,_=>by simp[cT]
 |n+1,hn=>by
  have hl:=sj (K:=c.correct) h
  have hg:=xL (c:=c) (k:=n) h (by omega)
  rw[cT,zP v h n (by omega),bM im (by omega),List.count_append,hg,List.count_singleton]
  by_cases e:v=sd c xs js n
  ·rw[if_pos e];simp[e]
  ·rw[if_neg e]
   have:¬sd c xs js n=v:=fun h=>e h.symm
   simp[this]
section
variable {p:ap} {s:aN}
theorem uf {ri:Int} {lo hi:Nat} (j kd:Int):∀(n:Nat) (c:aD) (xs:List bX),fp p s c->(∀i:Nat,lo<=i->i<hi->(if(i:Int)<c.correct then(5:Int) else 6)=kd)->(dY p s ri lo hi n c xs).2.2=0->
  ∃ys,(dY p s ri lo hi n c xs).2.1=xs++ys/\ys.length=n/\dB p s c ys/\(kT p c ys).getD ys.length cf=(dY p s ri lo hi n c xs).1/\Ao c.correct ys (List.replicate n j)=List.replicate n ⟨kd,j,ri⟩
 |0,c,xs,_,_,_=>⟨[],by simp[dY],rfl,trivial,rfl,rfl⟩
 |n+1,c,xs,h,hkd,hz=>by
  have e:dY p s ri lo hi (n+1) c xs=if mT c.states (b9 p ri) (hi-lo) lo<0 then(cf,[],9) else if kG p s c ⟨ri,mT c.states (b9 p ri) (hi-lo) lo,-1⟩≠0 then(cf,[],kG p s c ⟨ri,mT c.states (b9 p ri) (hi-lo) lo,-1⟩) else dY p s ri lo hi n (fQ c (p.rules.getD ri.toNat au) ⟨ri,mT c.states (b9 p ri) (hi-lo) lo,-1⟩) (xs++[⟨ri,mT c.states (b9 p ri) (hi-lo) lo,-1⟩]):=rfl
  by_cases h1:mT c.states (b9 p ri) (hi-lo) lo<0
  ·rw[e,if_pos h1] at hz;exact absurd hz (by decide)
  rw[if_neg h1] at e
  by_cases h2:kG p s c ⟨ri,mT c.states (b9 p ri) (hi-lo) lo,-1⟩≠0
  ·rw[e,if_pos h2] at hz;exact absurd hz h2
  rw[if_neg h2] at e
  have h2:=Classical.not_not.1 h2
  obtain⟨k,hk,k1,k2⟩:∃k:Nat,mT c.states (b9 p ri) (hi-lo) lo=k/\lo<=k/\k<hi:=by
   by_cases ho:nQ c.states (b9 p ri) (hi-lo) lo=0
   ·rw[MK ho] at h1;omega
   ·obtain⟨k,a,b,d,_⟩:=Ir (l:=c.states) (x:=b9 p ri) (n:=hi-lo) (i:=lo) (by omega)
    exact⟨k,a,b,by omega⟩
  rw[hk] at e h2
  obtain⟨_,h3,h4⟩:=xB h2
  rw[e] at hz⊢
  obtain⟨ys,a1,a2,a3,a4,a5⟩:=uf j kd n _ _ (r6 h h2) (fun i hi1 hi2=>hkd i hi1 hi2) hz
  refine⟨⟨ri,k,-1⟩::ys,by rw[a1];simp,by rw[List.length_cons,a2],⟨h3,h4,a3⟩,a4,?_⟩
  rw[List.replicate_succ,List.replicate_succ,Ao]
  dsimp only
  rw[hkd k k1 k2]
  congr 1
theorem I0 {ri:Int} (j:Int) {n m:Nat} {c:aD} (h:fp p s c) (hz:(gu p s c ri n m).2.2=0):
  ∃ys,(gu p s c ri n m).2.1=ys/\ys.length=n+m/\dB p s c ys/\(kT p c ys).getD ys.length cf=(gu p s c ri n m).1/\Ao c.correct ys (List.replicate (n+m) j)=List.replicate n ⟨5,j,ri⟩++List.replicate m ⟨6,j,ri⟩:=by
 have hcor:=h.vc.cor
 have hsz:=h.sz
 have hc0:0<=c.correct:=by omega
 unfold gu at hz⊢
 by_cases h1:(dY p s ri 0 c.correct.toNat n c []).2.2≠0
 ·rw[if_pos h1] at hz;exact absurd hz h1
 rw[if_neg h1] at hz⊢
 have h1:=Classical.not_not.1 h1
 obtain⟨ys,a1,a2,a3,a4,a5⟩:=uf j 5 n c [] h (fun i _ hi=>if_pos (by omega)) h1
 have kA:=nt p s ri 0 c.correct.toNat n c [] h
 obtain⟨_,r1,r2,r3,_⟩:=kA.resolve_right fun y=>y.1 h1
 obtain⟨zs,b1,b2,b3,b4,b5⟩:=uf j 6 m _ _ r1 (fun i hi _=>if_neg (by rw[r3];omega)) hz
 rw[r3] at b5
 refine⟨ys++zs,by rw[b1,a1];simp,by rw[List.length_append,a2,b2],qR.2 ⟨a3,by rw[a4];exact b3⟩,by rw[Dn,a4];exact b4,?_⟩
 rw[<-List.replicate_append_replicate,xK (by rw[a2,List.length_replicate]),a5,b5]
variable {t5 t6:Nat->Int->Int}
def xM (t5 t6:Nat->Int->Int) (L:List (Nat×Int)):List Int:=L.flatMap fun y=>List.replicate ((t5 y.1 y.2).toNat+(t6 y.1 y.2).toNat) (y.1:Int)
def LG (t5 t6:Nat->Int->Int) (L:List (Nat×Int)):List Vb:=L.flatMap fun y=>List.replicate (t5 y.1 y.2).toNat ⟨5,y.1,y.2⟩++List.replicate (t6 y.1 y.2).toNat ⟨6,y.1,y.2⟩
theorem zQ:∀(L:List (Nat×Int)) (c:aD) (xs:List bX),fp p s c->(kI p s t5 t6 L c xs).2.2=0->
  ∃ys,(kI p s t5 t6 L c xs).2.1=xs++ys/\ys.length=(xM t5 t6 L).length/\dB p s c ys/\(kT p c ys).getD ys.length cf=(kI p s t5 t6 L c xs).1/\Ao c.correct ys (xM t5 t6 L)=LG t5 t6 L
 |[],c,xs,_,_=>⟨[],by simp[kI],rfl,trivial,rfl,rfl⟩
 |(i,ri)::L,c,xs,h,hz=>by
  rw[kJ] at hz⊢
  by_cases h1:(gu p s c ri (t5 i ri).toNat (t6 i ri).toNat).2.2≠0
  ·rw[if_pos h1] at hz;exact absurd hz h1
  rw[if_neg h1] at hz⊢
  have h1:=Classical.not_not.1 h1
  obtain⟨ys,a1,a2,a3,a4,a5⟩:=I0 (i:Int) h h1
  obtain⟨_,r1,_⟩:=(Dh (ri:=ri) (n:=(t5 i ri).toNat) (m:=(t6 i ri).toNat) h).resolve_right fun y=>y.1 h1
  have hcc:(gu p s c ri (t5 i ri).toNat (t6 i ri).toNat).1.correct=c.correct:=by
   have a:=r1.vc.cor
   have b:=h.vc.cor
   omega
  obtain⟨zs,b1,b2,b3,b4,b5⟩:=zQ L _ (xs++(gu p s c ri (t5 i ri).toNat (t6 i ri).toNat).2.1) r1 hz
  rw[hcc] at b5
  refine⟨ys++zs,by rw[b1,a1];simp,?_,qR.2 ⟨a3,by rw[a4];exact b3⟩,by rw[Dn,a4];exact b4,?_⟩
  ·unfold xM at b2⊢
   rw[List.flatMap_cons,List.length_append,List.length_append,a2,b2,List.length_replicate]
  ·unfold xM LG at b5⊢
   rw[List.flatMap_cons,List.flatMap_cons,xK (by rw[a2,List.length_replicate]),a5,b5]
theorem zR {L:List (Nat×Int)} {x:Int} (h:x∈xM t5 t6 L):∃y∈L,x=y.1:=by
 obtain⟨y,hy,hx⟩:=List.mem_flatMap.1 h
 exact⟨y,hy,(List.mem_replicate.1 hx).2⟩
theorem LH {L:List (Nat×Int)} {v:Vb} (h:v∈LG t5 t6 L):∃y∈L,(v=⟨5,y.1,y.2⟩/\0<t5 y.1 y.2)\/(v=⟨6,y.1,y.2⟩/\0<t6 y.1 y.2):=by
 obtain⟨y,hy,hx⟩:=List.mem_flatMap.1 h
 refine⟨y,hy,?_⟩
 rcases List.mem_append.1 hx with hx|hx
 ·have:=List.mem_replicate.1 hx
  exact .inl ⟨this.2,by omega⟩
 ·have:=List.mem_replicate.1 hx
  exact .inr ⟨this.2,by omega⟩
theorem Fc {L:List (Nat×Int)} (h:L.Pairwise fun a b=>a.1<=b.1):(xM t5 t6 L).Pairwise (·<=·):=by
 unfold xM
 rw[List.pairwise_flatMap]
 refine⟨fun y _=>?_,h.imp fun{a b} hab x hx z hz=>?_⟩
 ·rw[List.pairwise_replicate]
  exact .inr (Int.le_refl _)
 ·rw[(List.mem_replicate.1 hx).2,(List.mem_replicate.1 hz).2]
  omega
theorem Fd {L:List (Nat×Int)} (h:L.Nodup) (i:Nat) (ri:Int):(LG t5 t6 L).count ⟨5,i,ri⟩=(if(i,ri)∈L then(t5 i ri).toNat else 0)/\(LG t5 t6 L).count ⟨6,i,ri⟩=(if(i,ri)∈L then(t6 i ri).toNat else 0):=by
 induction L with
 |nil=>simp[LG]
 |cons y L ih=>
  obtain⟨h1,h2⟩:=List.nodup_cons.1 h
  obtain⟨ih1,ih2⟩:=ih h2
  have e5:LG t5 t6 (y::L)=List.replicate (t5 y.1 y.2).toNat ⟨5,y.1,y.2⟩++List.replicate (t6 y.1 y.2).toNat ⟨6,y.1,y.2⟩++LG t5 t6 L:=rfl
  have a:∀k k2:Int,((⟨k,(y.1:Int),y.2⟩:Vb)==⟨k2,(i:Int),ri⟩)=decide (k=k2/\y=(i,ri)):=fun k k2=>by
   rw[Bool.eq_iff_iff,beq_iff_eq,decide_eq_true_eq]
   constructor
   ·intro e
    have x1:=congrArg Vb.kind e
    have x2:=congrArg Vb.seg e
    have x3:=congrArg Vb.idx e
    dsimp only at x1 x2 x3
    exact⟨x1,Prod.ext (by omega) x3⟩
   ·rintro⟨rfl,e⟩
    rw[e]
  rw[e5,List.count_append,List.count_append,List.count_append,List.count_append,List.count_replicate,List.count_replicate,List.count_replicate,List.count_replicate,a,a,a,a,ih1,ih2]
  by_cases e:y=(i,ri)
  ·subst e
   simp[h1]
  ·have:(i,ri)∈y::L↔(i,ri)∈L:=by
    rw[List.mem_cons]
    exact⟨fun h=>h.resolve_left fun h=>e h.symm, .inr⟩
   simp[e,Ne.symm e]
end
theorem hZ {ord:List Int}:∀{n j:Nat} {y:Nat×Int},y∈kH ord n j↔(j<=y.1/\y.1<j+n)/\y.2∈ord
 |0,j,y=>by
  simp only[kH,List.not_mem_nil,false_iff]
  omega
 |n+1,j,y=>by
  rw[kH,List.mem_append,hZ (n:=n),List.mem_map]
  constructor
  ·rintro(⟨r,hr,rfl⟩|⟨h1,h2⟩)
   ·exact⟨by dsimp only;omega,hr⟩
   ·exact⟨by omega,h2⟩
  ·rintro⟨h1,h2⟩
   by_cases e:y.1=j
   ·exact .inl ⟨y.2,h2,by rw[<-e]⟩
   ·exact .inr ⟨by omega,h2⟩
theorem lK {ord:List Int} (h:ord.Nodup):∀n j,(kH ord n j).Nodup
 |0,j=>List.nodup_nil
 |n+1,j=>by
  rw[kH,List.nodup_append]
  refine⟨?_,lK h n (j+1),fun a ha b hb e=>?_⟩
  ·refine List.pairwise_map.2 (h.imp fun{a b} hab e=>hab ?_)
   exact congrArg Prod.snd e
  ·obtain⟨r,_,rfl⟩:=List.mem_map.1 ha
   subst e
   have:=(hZ.1 hb).1
   dsimp only at this
   omega
theorem nv {ord:List Int}:∀n j,(kH ord n j).Pairwise fun a b=>a.1<=b.1
 |0,j=>List.Pairwise.nil
 |n+1,j=>by
  rw[kH,List.pairwise_append]
  refine⟨List.pairwise_map.2 (List.pairwise_iff_getElem.2 fun _ _ _ _ _=>Nat.le_refl _),nv n (j+1),fun a ha b hb=>?_⟩
  obtain⟨r,_,rfl⟩:=List.mem_map.1 ha
  have:=(hZ.1 hb).1
  dsimp only
  omega
theorem oz (rs:List bE) (n:Nat):(iR rs n).Nodup:=by
 unfold iR List.Nodup
 rw[List.pairwise_flatMap]
 refine⟨fun x _=>List.pairwise_map.2 ((List.nodup_range.filter _).imp fun{a b} hab e=>hab (by omega)),?_⟩
 refine(List.nodup_range (n:=n)).imp fun{a b} hab x hx y hy e=>?_
 obtain⟨i,hi,rfl⟩:=List.mem_map.1 hx
 obtain⟨k,hk,e2⟩:=List.mem_map.1 hy
 have e3:k=i:=by omega
 subst e3
 have h1:=(List.mem_filter.1 hi).2
 have h2:=(List.mem_filter.1 hk).2
 rw[decide_eq_true_eq] at h1 h2
 omega
theorem sk {p:ap} (hv:aL p=0) {r:Int}:r∈iR p.rules p.states.length↔0<=r/\r<p.rules.length:=by
 constructor
 ·exact r9
 ·rintro⟨h1,h2⟩
  have hr:=rV hv r.toNat (by omega)
  rw[xi] at hr
  unfold iR
  refine List.mem_flatMap.2 ⟨(p.rules.getD r.toNat au).src.toNat,List.mem_range.2 (by omega),List.mem_map.2 ⟨r.toNat,List.mem_filter.2 ⟨List.mem_range.2 (by omega),by rw[decide_eq_true_eq];omega⟩,by omega⟩⟩
end
section
set_option maxRecDepth 100000
set_option maxHeartbeats 4000000
theorem Dy (K:Int) (y:Int) (l:List Int):∀n:Nat,n<=l.length->uN K true y l n+uN K false y l n=((l.take n).count y:Int)
 |0,_=>by simp[uN,gk]
 |n+1,h=>by
  have ih:=Dy K y l n (by omega)
  unfold uN at ih⊢
  have hg:=am (0:Int) (show n<l.length by omega)
  rw[gk,gk,List.take_succ_eq_append_getElem (by omega),List.count_append,List.count_singleton]
  by_cases hk:(n:Int)<K
  ·have d:decide ((n:Int)<K)=true:=by simpa using hk
   rw[if_neg (c:=decide ((n:Int)<K)=false/\l.getD n 0=y) fun h=>by rw[d] at h;exact absurd h.1 (by decide)]
   by_cases e:l[n]=y
   ·rw[if_pos ⟨d,hg.trans e⟩,if_pos (by simpa using e)];omega
   ·rw[if_neg fun h=>e (hg.symm.trans h.2),if_neg (by simpa using e)];omega
  ·have d:decide ((n:Int)<K)=false:=by simpa using hk
   rw[if_neg (c:=decide ((n:Int)<K)=true/\l.getD n 0=y) fun h=>by rw[d] at h;exact absurd h.1 (by decide)]
   by_cases e:l[n]=y
   ·rw[if_pos ⟨d,hg.trans e⟩,if_pos (by simpa using e)];omega
   ·rw[if_neg fun h=>e (hg.symm.trans h.2),if_neg (by simpa using e)];omega
theorem MR (c:aD) (y:Int):∀n:Nat,cS c ⟨3,0,y⟩ n=uN c.correct true y c.states n/\cS c ⟨4,0,y⟩ n=uN c.correct false y c.states n
 |0=>⟨rfl,rfl⟩
 |n+1=>by
  obtain⟨a,b⟩:=MR c y n
  have e:∀k:Int,(⟨k,0,y⟩:Vb)=mW c n↔k=(if(n:Int)<c.correct then 3 else 4)/\c.states.getD n 0=y:=fun k=>by
   unfold mW
   constructor
   ·intro h
    exact⟨congrArg Vb.kind h,(congrArg Vb.idx h).symm⟩
   ·rintro⟨h1,h2⟩
    rw[h1,h2]
  unfold uN at a b⊢
  rw[cS,cS,gk,gk,a,b]
  simp only[e]
  by_cases hk:(n:Int)<c.correct
  ·simp[hk]
  ·simp[hk]
theorem qU {a:Co} {kind y:Int} {l:List Int} (h:l.Nodup):(gR a kind l).count y=if y∈l then(a ⟨kind,0,y⟩).toNat else 0:=by
 induction l with
 |nil=>simp[gR]
 |cons x l ih=>
  obtain⟨h1,h2⟩:=List.nodup_cons.1 h
  have ih:=ih h2
  unfold gR at ih⊢
  rw[List.flatMap_cons,List.count_append,ih,List.count_replicate]
  by_cases e:x=y
  ·subst e
   simp[h1]
  ·have:y∈x::l↔y∈l:=by simp[Ne.symm e]
   simp[e,Ne.symm e]
theorem I1 {c:aD} {xs:List bX} {seg:List Int} {v:Vb} (h:v.kind<5):∀n,cT c xs seg v n=0
 |0=>rfl
 |n+1=>by
  rw[cT,I1 h n,if_neg]
  ·rfl
  ·intro e
   have:=congrArg Vb.kind e
   unfold sd at this
   dsimp only at this
   split at this<;>omega
theorem I2 {c:aD} {v:Vb} (h:4<v.kind):∀n,cS c v n=0
 |0=>rfl
 |n+1=>by
  rw[cS,I2 h n,if_neg]
  ·rfl
  ·intro e
   have:=congrArg Vb.kind e
   unfold mW at this
   dsimp only at this
   split at this<;>omega
theorem I3 {s:aN} {v:Vb} (h:2<v.kind):BU s v=0:=by
 unfold BU
 rw[if_neg (fun e=>by subst e;dsimp only at h;omega),if_neg (fun e=>by subst e;dsimp only at h;omega),if_neg (fun e=>by subst e;dsimp only at h;omega)]
section
variable {p:ap} {q:aJ} {sch x:List Int} {number:Int}
noncomputable abbrev aX (p:ap) (q:aJ) (sch x:List Int):Co:=j0 (ao p q sch) x
noncomputable abbrev S6 (p:ap) (q:aJ) (sch x:List Int):Rn:=⟨bw p q (aX p q sch x),(xF p q sch x).2.1⟩
noncomputable abbrev nW (p:ap) (q:aJ) (sch x:List Int):aN:=fR (aX p q sch x)
noncomputable abbrev Fe (p:ap) (sch:List Int):List (Nat×Int):=kH (iR p.rules p.states.length) (sch.length+1) 0
noncomputable abbrev S7 (p:ap) (q:aJ) (sch x:List Int):List Int:=xM (zH p q sch x) (zI p q sch x) (Fe p sch)
structure rJ (p:ap) (q:aJ) (sch x:List Int) (number:Int):Prop where
 sol:OY p q sch x number
 pos:∀v∈ao p q sch,0<=aX p q sch x v/\aX p q sch x v<=1048576
 row:∀w∈iQ p q sch number,0<=w.2+cg w.1 (aX p q sch x) (ao p q sch)
theorem Dz (hc:dL p q=0) (hs:dM (aA p.rules).length sch) (h:pB (jn p q sch number) x) (h8:¬8<x.getD 0 0):rJ p q sch x number:=by
 have hs2:=Iy hc hs h h8
 have hn:=cL hs2.prp sch
 have hm:=Ho hn (sa h)
 rw[<-hm] at h
 obtain⟨h1,h2⟩:=(Hp hs2.prp hs).1 h
 rw[hm] at*
 exact⟨hs2,h1,h2⟩
theorem vU (h:rJ p q sch x number):((gR (aX p q sch x) 3 (cA p q)).length:Int)=(bw p q (aX p q sch x)).correct:=by
 have hst:=lG h.sol.prp h.row
 have hev:=Iq (p:=p) (q:=q) (sch:=sch) (a:=aX p q sch x)
 rw[xD (a:=aX p q sch x) (kind:=3) (l:=cA p q) fun y hy=>(h.pos _ (nu.2 hy)).1,<-hev.1,hst.1]
 rfl
theorem LI (h:rJ p q sch x number):MO p q (nW p q sch x) (bw p q (aX p q sch x)):=by
 have h3:=vU h
 have hv:=(a9 (bf h.sol.prp).vld).shp
 have ht:=h.sol.thr
 refine⟨h.sol.rdy.vc,rfl,fun j _=>?_,fun i hi=>?_⟩
 ·constructor
  ·show(List.replicate p.messages.length (0:Int)).getD j 0=0
   rw[gD,List.getElem?_replicate]
   split<;>rfl
  ·show(List.replicate p.messages.length (0:Int)).getD j 0=0
   rw[gD,List.getElem?_replicate]
   split<;>rfl
 ·unfold Sc
  rw[if_neg (by have:=ht.1;omega)]
  have ec:(bw p q (aX p q sch x)).correct=(nW p q sch x).n-(nW p q sch x).f:=rfl
  have es:(bw p q (aX p q sch x)).states=gR (aX p q sch x) 3 (cA p q)++(if lx p then gR (aX p q sch x) 4 p.initial else[]):=rfl
  rw[es] at hi⊢
  by_cases hk:(i:Int)<(nW p q sch x).n-(nW p q sch x).f
  ·rw[if_pos hk]
   have hil:i<(gR (aX p q sch x) 3 (cA p q)).length:=by omega
   rw[vS hil]
   exact r7 (aH 0 hil)
  ·rw[if_neg hk]
   have hil:(gR (aX p q sch x) 3 (cA p q)).length<=i:=by omega
   rw[oy hil]
   rw[List.length_append] at hi
   by_cases hw:lx p
   ·rw[if_pos hw] at hi⊢
    exact r7 (aH 0 (by omega))
   ·rw[if_neg hw,List.length_nil] at hi
    omega
noncomputable abbrev pV (p:ap) (q:aJ) (sch x:List Int) (L:List (Nat×Int)):aD×List bX×Int:=kI p (nW p q sch x) (zH p q sch x) (zI p q sch x) L (bw p q (aX p q sch x)) []
noncomputable abbrev nw (p:ap) (q:aJ) (sch x:List Int) (L:List (Nat×Int)):Rn:=⟨bw p q (aX p q sch x),(pV p q sch x L).2.1⟩
noncomputable abbrev Ap (p:ap) (q:aJ) (sch x:List Int) (L:List (Nat×Int)):List Int:=xM (zH p q sch x) (zI p q sch x) L
structure zS (p:ap) (q:aJ) (sch x:List Int) (L:List (Nat×Int)):Prop where
 mon:L.Pairwise fun a b=>a.1<=b.1
 nod:L.Nodup
 sub:∀y∈L,y∈Fe p sch
 ok:(pV p q sch x L).2.2=0
theorem LJ (hz:(xF p q sch x).2.2=0):zS p q sch x (Fe p sch):=⟨nv _ _,lK (oz _ _) _ _,fun _ h=>h,hz⟩
theorem pW {L:List (Nat×Int)} (h:rJ p q sch x number) (hz:zS p q sch x L):(pV p q sch x L).2.1.length=(Ap p q sch x L).length/\dB p (nW p q sch x) (bw p q (aX p q sch x)) (pV p q sch x L).2.1/\
  (kT p (bw p q (aX p q sch x)) (pV p q sch x L).2.1).getD (pV p q sch x L).2.1.length cf=(pV p q sch x L).1/\Ao (bw p q (aX p q sch x)).correct (pV p q sch x L).2.1 (Ap p q sch x L)=LG (zH p q sch x) (zI p q sch x) L:=by
 obtain⟨ys,a1,a2,a3,a4,a5⟩:=zQ (p:=p) (s:=nW p q sch x) (t5:=zH p q sch x) (t6:=zI p q sch x) L (bw p q (aX p q sch x)) [] h.sol.rdy hz.ok
 have e:(pV p q sch x L).2.1=ys:=a1
 rw[e]
 exact⟨a2,a3,a4,a5⟩
theorem xN (h:rJ p q sch x number) {kind:Int} {j:Nat} {r:Int} (h0:0<iJ (ao p q sch) x kind j r):(⟨kind,j,r⟩:Vb)∈ao p q sch:=by
 rw[lH (cL h.sol.prp sch)] at h0
 by_cases e:(⟨kind,j,r⟩:Vb)∈ao p q sch
 ·exact e
 ·rw[if_neg e] at h0;omega
theorem xO {L:List (Nat×Int)} (h:rJ p q sch x number) (hz:zS p q sch x L):nU p q (nW p q sch x) (nw p q sch x L) sch (Ap p q sch x L):=by
 obtain⟨a1,a2,a3,a4⟩:=pW h hz
 have hl:=Dq h.sol.thr h.sol.rdy a2
 have hp0:=sb h.sol.rdy
 have hst:((bw p q (aX p q sch x)).states.length:Int)=iy p (nW p q sch x):=h.sol.rdy.vc.len
 have hsz:(1<=(nW p q sch x).n/\(nW p q sch x).n<=8)/\0<=(nW p q sch x).f/\(nW p q sch x).f<=(nW p q sch x).n:=h.sol.rdy.sz
 have hm:iy p (nW p q sch x)<=8:=by unfold iy;split<;>omega
 have hmn:=Fc (t5:=zH p q sch x) (t6:=zI p q sch x) hz.mon
 refine⟨h.sol.prp,h.sol.thr,h.sol.rdy,a2,LI h,?_,?_,h.sol.scm,fun k hk=>?_,fun k hk=>?_,fun k hk=>?_⟩
 ·show(pV p q sch x L).2.1.length<=48
  omega
 ·show(bw p q (aX p q sch x)).states.length<=8
  omega
 ·have hk:k<(pV p q sch x L).2.1.length:=hk
  rw[<-xL (c:=(nw p q sch x L).start) (xs:=(nw p q sch x L).steps) a1 hk]
  have hlen:=sj (K:=(bw p q (aX p q sch x)).correct) a1
  have hm:=aH im (l:=Ao (bw p q (aX p q sch x)).correct (pV p q sch x L).2.1 (Ap p q sch x L)) (k:=k) (by omega)
  have hm2:=hm
  rw[a4] at hm2
  obtain⟨y,hy,hv⟩:=LH hm2
  show(Ao (bw p q (aX p q sch x)).correct (pV p q sch x L).2.1 (Ap p q sch x L)).getD k im∈_
  rw[a4]
  rcases hv with ⟨e,hv⟩|⟨e,hv⟩
  ·rw[e];exact xN h hv
  ·rw[e];exact xN h hv
 ·have hk:k<(pV p q sch x L).2.1.length:=hk
  obtain⟨y,hy,e⟩:=zR (aH 0 (l:=Ap p q sch x L) (k:=k) (by omega))
  have:=(hZ.1 (hz.sub y hy)).1
  rw[e]
  omega
 ·have hk:k+1<(pV p q sch x L).2.1.length:=hk
  have hl1:k<(Ap p q sch x L).length:=by omega
  have hl2:k+1<(Ap p q sch x L).length:=by omega
  have:=List.pairwise_iff_getElem.1 hmn k (k+1) hl1 hl2 (by omega)
  rw[am 0 hl1,am 0 hl2]
  exact this
theorem I4 {L:List (Nat×Int)} (h:rJ p q sch x number) (hz:zS p q sch x L):∀v∈ao p q sch,uO (nW p q sch x) (nw p q sch x L) (Ap p q sch x L) v=if v.kind<5\/(v.seg.toNat,v.idx)∈L then aX p q sch x v else 0:=by
 intro v hv
 obtain⟨a1,a2,a3,a4⟩:=pW h hz
 have hp:=h.pos v hv
 have hk:=kz h.sol.prp hv
 have hpar:v.kind<3->uO (nW p q sch x) (nw p q sch x L) (Ap p q sch x L) v=BU (nW p q sch x) v:=fun hh=>si hh
 have hvv:=a9 (bf h.sol.prp).vld
 have n3:(cA p q).Nodup:=by
  unfold cA
  split
  ·exact i7 (bf h.sol.prp).start
  ·exact i7 hvv.ini.1
 have n4:p.initial.Nodup:=i7 hvv.ini.1
 unfold My at hk
 rcases hk with (rfl|rfl|rfl)|⟨hk,hs,_⟩|⟨hk,hs,hi⟩
 ·rw[hpar (by decide),if_pos (.inl (by decide))];simp[BU,fR]
 ·rw[hpar (by decide),if_pos (.inl (by decide))];simp[BU,fR]
 ·rw[hpar (by decide),if_pos (.inl (by decide))];simp[BU,fR]
 ·have h3:=vU h
  have es:(bw p q (aX p q sch x)).states=gR (aX p q sch x) 3 (cA p q)++(if lx p then gR (aX p q sch x) 4 p.initial else[]):=rfl
  have hc:=MR (bw p q (aX p q sch x)) v.idx (bw p q (aX p q sch x)).states.length
  have hb:=Dy (bw p q (aX p q sch x)).correct v.idx (bw p q (aX p q sch x)).states _ (Nat.le_refl _)
  have ht:=zO (K:=(bw p q (aX p q sch x)).correct) (by omega) v.idx (l:=(bw p q (aX p q sch x)).states) _ (Nat.le_refl _)
  have hll:(bw p q (aX p q sch x)).correct.toNat<=(bw p q (aX p q sch x)).states.length:=by rw[es,List.length_append];omega
  have htk:(bw p q (aX p q sch x)).states.take (bw p q (aX p q sch x)).correct.toNat=gR (aX p q sch x) 3 (cA p q):=by
   rw[es,List.take_append_of_le_length (by omega),List.take_of_length_le (by omega)]
  rw[Nat.min_eq_right hll,htk,qU n3] at ht
  rw[List.take_length,es,List.count_append,qU n3] at hb
  rw[<-es] at hb
  rw[if_pos (.inl (by omega))]
  unfold uO O3
  rw[I3 (by omega),I1 (by omega)]
  show 0+cS (bw p q (aX p q sch x)) v (bw p q (aX p q sch x)).states.length+0=_
  rcases hk with hk|⟨hk,hw⟩
  ·have e:v=⟨3,0,v.idx⟩:=lw hk hs rfl
   rw[e] at hv
   have hm:=nu.1 hv
   rw[if_pos hm] at ht
   rw[e]
   rw[hc.1,ht]
   rw[<-e]
   omega
  ·have e:v=⟨4,0,v.idx⟩:=lw hk hs rfl
   rw[e] at hv
   have hm:=(pR.1 hv).2
   rw[if_pos hw,qU n4,if_pos hm] at hb
   rw[e]
   rw[hc.2]
   rw[<-e] at hb⊢
   omega
 ·have hvl:=(bf h.sol.prp).vld
  have hn:=cL h.sol.prp sch
  have hcnt:=Fd (t5:=zH p q sch x) (t6:=zI p q sch x) hz.nod v.seg.toNat v.idx
  rw[Int.toNat_of_nonneg hs.1] at hcnt
  have hcT:=zP (c:=bw p q (aX p q sch x)) v a1 _ (Nat.le_refl _)
  have hlen:=sj (K:=(bw p q (aX p q sch x)).correct) a1
  rw[List.take_of_length_le (by omega),a4] at hcT
  unfold uO O3
  rw[I3 (by omega),I2 (by omega)]
  show 0+0+cT (bw p q (aX p q sch x)) (pV p q sch x L).2.1 (Ap p q sch x L) v (pV p q sch x L).2.1.length=_
  rw[hcT]
  rcases hk with hk|⟨hk,_⟩
  ·have e:v=⟨5,v.seg,v.idx⟩:=lw hk rfl rfl
   have ht:zH p q sch x v.seg.toNat v.idx=aX p q sch x v:=by
    show iJ (ao p q sch) x 5 (v.seg.toNat:Int) v.idx=_
    rw[Int.toNat_of_nonneg hs.1,lH hn,<-e,if_pos hv]
   have hc5:=hcnt.1
   rw[<-e,ht] at hc5
   rw[hc5]
   by_cases hm:(v.seg.toNat,v.idx)∈L
   ·rw[if_pos hm,if_pos (.inr hm)];omega
   ·rw[if_neg hm,if_neg (fun hh=>hh.elim (fun hh=>by omega) hm)];omega
  ·have e:v=⟨6,v.seg,v.idx⟩:=lw hk rfl rfl
   have ht:zI p q sch x v.seg.toNat v.idx=aX p q sch x v:=by
    show iJ (ao p q sch) x 6 (v.seg.toNat:Int) v.idx=_
    rw[Int.toNat_of_nonneg hs.1,lH hn,<-e,if_pos hv]
   have hc6:=hcnt.2
   rw[<-e,ht] at hc6
   rw[hc6]
   by_cases hm:(v.seg.toNat,v.idx)∈L
   ·rw[if_pos hm,if_pos (.inr hm)];omega
   ·rw[if_neg hm,if_neg (fun hh=>hh.elim (fun hh=>by omega) hm)];omega
theorem O9 (h:rJ p q sch x number) (hz:(xF p q sch x).2.2=0):nU p q (nW p q sch x) (S6 p q sch x) sch (S7 p q sch x):=xO h (LJ hz)
end
end
section
set_option maxRecDepth 100000
set_option maxHeartbeats 4000000
theorem I5 {c b:Co} {v0:Vb}:∀{l:List Vb},(∀v∈l,c v*b v<=0)->v0∈l->cg c b l<=c v0*b v0
 |v::l,h,hm=>by
  rw[cg]
  have hz:∀{m:List Vb},(∀v∈m,c v*b v<=0)->cg c b m<=0:=fun{m} hm=>by
   induction m with
   |nil=>exact Int.le_refl _
   |cons w m ih=>
    rw[cg]
    have:=ih fun y hy=>hm y (List.mem_cons_of_mem _ hy)
    have:=hm w List.mem_cons_self
    omega
  rcases List.mem_cons.1 hm with rfl|hm
  ·have:=hz fun y hy=>h y (List.mem_cons_of_mem _ hy)
   omega
  ·have a:=I5 (l:=l) (fun y hy=>h y (List.mem_cons_of_mem _ hy)) hm
   have:=h v List.mem_cons_self
   omega
theorem vV {c a b:Co}:∀l:List Vb,cg c a l=cg c b l+cg c (fun v=>a v-b v) l
 |[]=>rfl
 |v::l=>by
  rw[cg,cg,cg,vV (c:=c) (a:=a) (b:=b) l,Int.mul_sub]
  omega
theorem zT {c a b:Co}:∀{l:List Vb},(∀v∈l,c v*a v=c v*b v)->cg c a l=cg c b l
 |[],_=>rfl
 |v::l,h=>by rw[cg,cg,h v List.mem_cons_self,zT (l:=l) fun y hy=>h y (List.mem_cons_of_mem _ hy)]
theorem I6 {f:Nat->Int}:∀{n:Nat},(∀i,i<n->f i<=1)->gk f n<=n
 |0,_=>Int.le_refl _
 |n+1,h=>by
  have a:=I6 (n:=n) fun i hi=>h i (by omega)
  have b:=h n (by omega)
  rw[gk];omega
theorem DA (l:List Int) (y:Int):∀(n i:Nat),(nQ l y n i:Int)=gk (fun k=>if l.getD (i+k) 0=y then 1 else 0) n
 |0,_=>rfl
 |n+1,i=>by
  have sh:∀(f:Nat->Int) (n:Nat),gk f (n+1)=f 0+gk (fun k=>f (k+1)) n:=fun f n=>by
   induction n with
   |zero=>simp[gk]
   |succ n ih=>
    rw[gk,ih,gk]
    omega
  rw[nQ,sh,Int.natCast_add,DA l y n (i+1)]
  congr 1
  ·rw[Nat.add_zero];split<;>rfl
  ·exact fc fun k _=>by rw[show i+1+k=i+(k+1) by omega]
theorem DB (f:Nat->Int) (m:Nat):∀n,gk f (m+n)=gk f m+gk (fun k=>f (m+k)) n
 |0=>by rw[Nat.add_zero,gk];omega
 |n+1=>by
  rw[<-Nat.add_assoc,gk,DB f m n,gk]
  omega
theorem DC {l:List Int} {K:Int} (h0:0<=K) (hK:K.toNat<=l.length) (y:Int) (f:Bool):(Dl l K.toNat l.length f y:Int)=uN K (!f) y l l.length:=by
 have e:=DB (fun i=>if decide ((i:Int)<K)=(!f)/\l.getD i 0=y then(1:Int) else 0) K.toNat (l.length-K.toNat)
 rw[Nat.add_sub_cancel' hK] at e
 unfold Dl uN
 rw[DA,e]
 cases f
 ·rw[pU (f:=fun k=>if decide (((K.toNat+k:Nat):Int)<K)=(!false)/\l.getD (K.toNat+k) 0=y then(1:Int) else 0) fun k _=>if_neg fun h=>by
   have:=h.1
   simp at this
   omega]
  rw[Int.add_zero]
  show gk _ K.toNat=_
  refine fc fun k hk=>?_
  show(if l.getD (0+k) 0=y then(1:Int) else 0)=_
  have:(k:Int)<K:=by omega
  rw[Nat.zero_add]
  simp[this]
 ·rw[pU (f:=fun i=>if decide ((i:Int)<K)=(!true)/\l.getD i 0=y then(1:Int) else 0) fun k hk=>if_neg fun h=>by
   have:=h.1
   simp at this
   omega]
  rw[Int.zero_add]
  show gk _ (l.length-K.toNat)=_
  refine fc fun k hk=>?_
  show(if l.getD (K.toNat+k) 0=y then(1:Int) else 0)=_
  have:¬((K.toNat+k:Nat):Int)<K:=by omega
  simp only[this]
  simp
def Sn (p:ap) (a b:Nat×Int):Prop:=a.1<b.1\/(a.1=b.1/\b9 p a.2<=b9 p b.2)
theorem I7 (p:ap) (n:Nat):(iR p.rules n).Pairwise fun a b=>b9 p a<=b9 p b:=by
 have key:∀(x:Nat) (a:Int),a∈((List.range p.rules.length).filter fun r=>decide ((p.rules.getD r au).src=(x:Int))).map (fun r:Nat=>(r:Int))->b9 p a=x:=fun x a ha=>by
  obtain⟨i,hi,rfl⟩:=List.mem_map.1 ha
  have h1:=(List.mem_filter.1 hi).2
  rw[decide_eq_true_eq] at h1
  unfold b9
  rw[tN]
  exact h1
 unfold iR
 rw[List.pairwise_flatMap]
 refine⟨fun x _=>List.pairwise_iff_getElem.2 fun i j hi hj _=>?_,?_⟩
 ·rw[key x _ (List.getElem_mem hi),key x _ (List.getElem_mem hj)]
  exact Int.le_refl _
 ·refine(List.pairwise_lt_range (n:=n)).imp fun{a b} hab x hx y hy=>?_
  rw[key a x hx,key b y hy]
  omega
theorem zU (p:ap) {ord:List Int} (h:ord.Pairwise fun a b=>b9 p a<=b9 p b):∀n j,(kH ord n j).Pairwise (Sn p)
 |0,j=>List.Pairwise.nil
 |n+1,j=>by
  rw[kH,List.pairwise_append]
  refine⟨List.pairwise_map.2 (h.imp fun{a b} hab=>.inr ⟨rfl,hab⟩),zU p h n (j+1),fun a ha b hb=>?_⟩
  obtain⟨r,_,rfl⟩:=List.mem_map.1 ha
  have:=(hZ.1 hb).1
  exact .inl (by dsimp only;omega)
theorem zV {p:ap} {s:aN} {t5 t6:Nat->Int->Int}:∀(L1 L2:List (Nat×Int)) (c:aD) (xs:List bX),(kI p s t5 t6 L1 c xs).2.2=0->kI p s t5 t6 (L1++L2) c xs=kI p s t5 t6 L2 (kI p s t5 t6 L1 c xs).1 (kI p s t5 t6 L1 c xs).2.1
 |[],L2,c,xs,_=>rfl
 |(i,ri)::L1,L2,c,xs,h=>by
  rw[List.cons_append,kJ,kJ] at*
  by_cases h1:(gu p s c ri (t5 i ri).toNat (t6 i ri).toNat).2.2≠0
  ·rw[if_pos h1] at h;exact absurd h h1
  rw[if_neg h1] at h⊢
  rw[if_neg h1]
  exact zV L1 L2 _ _ h
section
variable {p:ap} {q:aJ} {sch x:List Int} {number:Int}
theorem DD {L1 L2:List (Nat×Int)} {j:Nat} {r:Int} (h:rJ p q sch x number) (hz:zS p q sch x L1) (hL:Fe p sch=L1++(j,r)::L2) {start fire:Int} {b:Bool} (hs:start=3/\fire=5/\b=true\/start=4/\fire=6/\b=false) (hv0:(⟨fire,j,r⟩:Vb)∈ao p q sch):
  aX p q sch x ⟨fire,j,r⟩<=uN (bw p q (aX p q sch x)).correct b (b9 p r) (pV p q sch x L1).1.states (bw p q (aX p q sch x)).states.length:=by
 have hk:=xO h hz
 have hX:=I4 h hz
 have hvl:=(bf h.sol.prp).vld
 have hfin:=pW h hz
 have hmem:(j,r)∈Fe p sch:=by rw[hL];simp
 obtain⟨⟨_,hj⟩,hr⟩:=hZ.1 hmem
 dsimp only at hj hr
 have hri:=sk hvl |>.1 hr
 have hord:=zU p (I7 p p.states.length) (sch.length+1) 0
 have hnd:=lK (oz p.rules p.states.length) (sch.length+1) 0
 rw[show kH (iR p.rules p.states.length) (sch.length+1) 0=L1++(j,r)::L2 from hL] at hord hnd
 obtain⟨_,ho2,ho3⟩:=List.pairwise_append.1 hord
 obtain⟨ho4,_⟩:=List.pairwise_cons.1 ho2
 have hsr:=rV hvl r.toNat (by omega)
 rw[xi] at hsr
 have hsrc:b9 p r=(p.rules.getD r.toNat au).src:=rfl
 have hx0:0<=b9 p r/\b9 p r<p.states.length:=hsr
 have hnot:(j,r)∉L1:=fun hm=>by
  have:=(List.nodup_append.1 hnd).2.2 _ hm _ List.mem_cons_self
  exact this rfl
 have hle:∀y∈L1,y.1<=j:=fun y hy=>by
  have:=ho3 y hy _ List.mem_cons_self
  unfold Sn at this
  dsimp only at this
  omega
 have hw:start=3\/start=4/\lx p:=by
  have:=kz h.sol.prp hv0
  unfold My at this
  rcases hs with ⟨rfl,rfl,rfl⟩|⟨rfl,rfl,rfl⟩
  ·exact .inl rfl
  ·refine .inr ⟨rfl,?_⟩
   rcases this with (e|e|e)|⟨e,_⟩|⟨e,_⟩
   ·have:=congrArg Vb.kind e;dsimp only at this;omega
   ·have:=congrArg Vb.kind e;dsimp only at this;omega
   ·have:=congrArg Vb.kind e;dsimp only at this;omega
   ·dsimp only at e;omega
   ·dsimp only at e
    rcases e with e|e
    ·omega
    ·exact e.2
 have hrow:=h.row (tL p start fire (b9 p r).toNat j) (by
  unfold iQ
  refine List.mem_append_left _ (List.mem_append_right _ (List.mem_flatMap.2 ⟨j,List.mem_range.2 (by omega),?_⟩))
  unfold lW
  rcases hs with ⟨rfl,rfl,rfl⟩|⟨rfl,rfl,rfl⟩
  ·exact List.mem_append_left _ (List.mem_append_right _ (List.mem_map.2 ⟨_,List.mem_range.2 (by omega),rfl⟩))
  ·refine List.mem_append_right _ ?_
   rw[if_pos (hw.resolve_left (by decide)).2]
   exact List.mem_map.2 ⟨_,List.mem_range.2 (by omega),rfl⟩)
 unfold tL at hrow
 dsimp only at hrow
 rw[gj,IW,Int.toNat_of_nonneg hx0.1,vV (b:=uO (nW p q sch x) (nw p q sch x L1) (Ap p q sch x L1)),
  O6 hk (b:=b) hs (m:=(nw p q sch x L1).steps.length) (Nat.le_refl _) (fun k hkk=>⟨fun _=>hkk,fun _=>by
   have hkk:k<(pV p q sch x L1).2.1.length:=hkk
   obtain⟨y,hy,e⟩:=zR (aH 0 (l:=Ap p q sch x L1) (k:=k) (by rw[<-hfin.1];exact hkk))
   have:=hle y hy
   rw[e]
   omega⟩)] at hrow
 have hcf:uP p (nw p q sch x L1) (nw p q sch x L1).steps.length=(pV p q sch x L1).1:=hfin.2.2.1
 rw[hcf] at hrow
 have hrest:∀v∈ao p q sch,aX p q sch x v-uO (nW p q sch x) (nw p q sch x L1) (Ap p q sch x L1) v=if v.kind<5\/(v.seg.toNat,v.idx)∈L1 then 0 else aX p q sch x v:=fun v hv=>by
  rw[hX v hv]
  split<;>omega
 have hdst:=(h.sol.thr.2.2 r.toNat (by omega)).2.1
 have hA:cG p.rules start fire (b9 p r) (j+1) 0 ⟨fire,j,r⟩=-1:=by
  unfold cG Mx
  dsimp only
  rw[if_neg (fun e=>by have:=congrArg Vb.kind e;dsimp only at this;omega),if_pos ⟨rfl,by dsimp only;omega,by dsimp only;omega, .inl ⟨by dsimp only;omega,by dsimp only;omega⟩⟩,hsrc,if_neg (by omega),if_pos rfl]
  rfl
 have hlast:=I5 (c:=cG p.rules start fire (b9 p r) (j+1) 0) (b:=fun v=>aX p q sch x v-uO (nW p q sch x) (nw p q sch x L1) (Ap p q sch x L1) v) (v0:=⟨fire,j,r⟩) (l:=ao p q sch) (fun v hv=>by
  rw[hrest v hv]
  by_cases hin:v.kind<5\/(v.seg.toNat,v.idx)∈L1
  ·rw[if_pos hin];omega
  rw[if_neg hin]
  have hpos:=(h.pos v hv).1
  have hk5:5<=v.kind:=by omega
  have hkd:=kz h.sol.prp hv
  have hc:cG p.rules start fire (b9 p r) (j+1) 0 v<=0:=by
   unfold cG
   rw[if_neg (fun e=>by have:=congrArg Vb.kind e;dsimp only at this;omega)]
   by_cases hf:gg p.rules.length fire (j+1) 0 v
   rotate_left
   ·rw[if_neg hf];decide
   rw[if_pos hf]
   obtain⟨f1,f2,f3,f4⟩:=hf
   have hvm:(v.seg.toNat,v.idx)∈(j,r)::L2:=by
    have hm2:(v.seg.toNat,v.idx)∈Fe p sch:=hZ.2 ⟨⟨Nat.zero_le _,by dsimp only;omega⟩,(sk hvl).2 (by omega)⟩
    rw[hL] at hm2
    exact(List.mem_append.1 hm2).resolve_left fun hh=>hin (.inr hh)
   have hsv:b9 p r<=b9 p v.idx:=by
    rcases List.mem_cons.1 hvm with e|hm2
    ·have e2:v.idx=r:=congrArg Prod.snd e
     rw[e2]
     exact Int.le_refl _
    ·have:=ho4 _ hm2
     unfold Sn at this
     dsimp only at this
     omega
   have hdv:=(h.sol.thr.2.2 v.idx.toNat (by omega)).2.1
   have hsv2:b9 p v.idx=(p.rules.getD v.idx.toNat au).src:=rfl
   unfold Mx
   rw[if_neg (by omega)]
   split<;>omega
  have:=Int.mul_nonpos_of_nonpos_of_nonneg hc hpos
  exact this) hv0
 rw[hA,hrest _ hv0,if_neg (fun hh=>hh.elim (fun hh=>by dsimp only at hh;omega) (by dsimp only;rw[tN];exact hnot))] at hlast
 show _<=uN (nw p q sch x L1).start.correct b (b9 p r) (pV p q sch x L1).1.states (nw p q sch x L1).start.states.length
 omega
theorem LK {s:aN} {r:Rn} {seg:List Int} (hk:nU p q s r sch seg) {g:fL} (h0:0<=g.message) {j m:Nat} (hm:m<=r.steps.length) (hc:∀k,k<r.steps.length->(seg.getD k 0<((j:Nat):Int)↔k<m)):
  (nM p g j).2+cg (nM p g j).1 (uO s r seg) (ao p q sch)=g.coef*BO p s (uP p r m) g.message-ku g.bound s:=by
 have hn:BO p s (uP p r m) g.message=(uP p r m).sent.getD g.message.toNat 0+(uP p r m).faulty.getD g.message.toNat 0+(if p.fault=3 then s.f else 0):=by
  unfold BO
  by_cases hw:p.fault=1\/p.fault=2
  ·rw[if_pos hw,if_neg (by omega)];omega
  ·rw[if_neg hw,IZ hk hm hw];omega
 have hnd:=cL hk.prp sch
 have h2m:(⟨2,0,0⟩:Vb)∈ao p q sch:=by unfold ao;simp
 have f5:cg (cH p.rules 5 g.message j 0) (uO s r seg) (ao p q sch)=(uP p r m).sent.getD g.message.toNat 0:=IU hk (fire:=5) (b:=true) (.inl ⟨rfl,rfl⟩) h0 hm hc
 have f6:cg (cH p.rules 6 g.message j 0) (uO s r seg) (ao p q sch)=(uP p r m).faulty.getD g.message.toNat 0:=IU hk (fire:=6) (b:=false) (.inr ⟨rfl,rfl⟩) h0 hm hc
 rw[hn,Int.mul_add,Int.mul_add]
 unfold nM ku
 dsimp only
 by_cases h3:p.fault=3
 ·rw[if_pos h3,if_pos h3,gj,IV hnd h2m,gj,gj,IW,f5,f6,IX,QV]
  omega
 ·rw[if_neg h3,if_neg h3,gj,gj,gj,IW,f5,f6,IX]
  omega
theorem LN {L1 L2:List (Nat×Int)} {j:Nat} {r:Int} (h:rJ p q sch x number) (hz:zS p q sch x L1) (hL:Fe p sch=L1++(j,r)::L2) {m:Nat} (hm:m<j):
  ∃i:Nat,i<(aA p.rules).length/\sch.getD m 0=i/\nO p (nW p q sch x) (pV p q sch x L1).1 i:=by
 have hk:=xO h hz
 have hX:=I4 h hz
 have hvl:=(bf h.sol.prp).vld
 have hfin:=pW h hz
 have hmem:(j,r)∈Fe p sch:=by rw[hL];simp
 obtain⟨⟨_,hj⟩,hr⟩:=hZ.1 hmem
 dsimp only at hj hr
 have hord:=nv (ord:=iR p.rules p.states.length) (sch.length+1) 0
 rw[show kH (iR p.rules p.states.length) (sch.length+1) 0=L1++(j,r)::L2 from hL] at hord
 obtain⟨_,ho2,_⟩:=List.pairwise_append.1 hord
 obtain⟨ho4,_⟩:=List.pairwise_cons.1 ho2
 have hsc:=(h.sol.scm m (by omega)).1
 obtain⟨i,hi⟩:∃i:Nat,sch.getD m 0=i:=⟨(sch.getD m 0).toNat,by omega⟩
 have hil:i<(aA p.rules).length:=by omega
 refine⟨i,hil,hi,?_⟩
 have hT:=xd hvl (aH aW hil)
 have hrow:=h.row (nM p ((aA p.rules).getD i aW) (m+1)) (by
  unfold iQ
  refine List.mem_append_left _ (List.mem_append_right _ (List.mem_flatMap.2 ⟨m+1,List.mem_range.2 (by omega),?_⟩))
  unfold lW
  refine List.mem_append_left _ (List.mem_append_left _ ?_)
  rw[if_pos (Nat.succ_pos m),Nat.add_sub_cancel,hi,tN]
  exact List.mem_singleton.2 rfl)
 obtain⟨m',hm',hc⟩:=QU hk ((m+1:Nat):Int)
 rw[zT (b:=uO (nW p q sch x) (nw p q sch x L1) (Ap p q sch x L1)) fun v hv=>by
  rw[hX v hv]
  by_cases hin:v.kind<5\/(v.seg.toNat,v.idx)∈L1
  ·rw[if_pos hin]
  rw[if_neg hin]
  have hkd:=kz h.sol.prp hv
  have hk5:5<=v.kind:=by omega
  have hs0:∀fire msg:Int,cH p.rules fire msg (m+1) 0 v=0:=fun fire msg=>by
   unfold cH
   rw[if_neg]
   rintro⟨⟨f1,f2,f3,f4⟩,_⟩
   have hm2:(v.seg.toNat,v.idx)∈Fe p sch:=hZ.2 ⟨⟨Nat.zero_le _,by dsimp only;omega⟩,(sk hvl).2 (by omega)⟩
   rw[hL] at hm2
   rcases List.mem_cons.1 ((List.mem_append.1 hm2).resolve_left fun hh=>hin (.inr hh)) with e|hm3
   ·have e2:v.seg.toNat=j:=congrArg Prod.fst e
    omega
   ·have:=ho4 _ hm3
    dsimp only at this
    omega
  have hl0:∀l:l7,gt l v=0:=fun l=>t9 (by omega)
  have hz0:(nM p ((aA p.rules).getD i aW) (m+1)).1 v=0:=by
   unfold nM
   dsimp only
   have hne:v≠⟨2,0,0⟩:=fun e=>by subst e;dsimp only at hk5;omega
   split
   ·unfold cB
    rw[nm _ _ hne,hl0,hs0,hs0]
    simp[zC]
   ·unfold cB
    rw[hl0,hs0,hs0]
    simp[zC]
  rw[hz0,Int.zero_mul,Int.zero_mul]] at hrow
 rw[LK hk hT.1.1 hm' hc] at hrow
 have hu:nO p (nW p q sch x) (uP p (nw p q sch x L1) m') i:=by
  unfold nO
  omega
 have hu2:=Dv hk.rdy hk.run hil hu (nw p q sch x L1).steps.length hm' (Nat.le_refl _)
 have hcf:uP p (nw p q sch x L1) (nw p q sch x L1).steps.length=(pV p q sch x L1).1:=hfin.2.2.1
 have hu3:nO p (nW p q sch x) (uP p (nw p q sch x L1) (nw p q sch x L1).steps.length) i:=hu2
 rw[hcf] at hu3
 exact hu3
theorem LO {fire r:Int} {j:Nat} (hf:5<=fire) (hv:(⟨fire,j,r⟩:Vb)∈ao p q sch):EL (aA p.rules) sch j (p.rules.getD r.toNat au):=by
 unfold ao uF at hv
 simp only[List.mem_append] at hv
 rcases hv with (h|h|h)|h
 ·simp only[List.mem_cons,List.not_mem_nil,or_false] at h
  rcases h with h|h|h<;>(have:=congrArg Vb.kind h;dsimp only at this;omega)
 ·obtain⟨y,hy,e⟩:=List.mem_map.1 h
  have:=congrArg Vb.kind e
  dsimp only at this
  omega
 ·split at h
  ·obtain⟨y,hy,e⟩:=List.mem_map.1 h
   have:=congrArg Vb.kind e
   dsimp only at this
   omega
  ·cases h
 ·obtain⟨j',_,h⟩:=List.mem_flatMap.1 h
  obtain⟨r',_,h⟩:=eJ h
  have hh:=fC h
  dsimp only at hh
  unfold za at h
  split at h
  ·rename_i hA
   have e1:j'=j:=by omega
   have e2:r.toNat=r':=by omega
   rw[e2,<-e1]
   exact hA
  ·cases h
theorem zW {s:aN} (ht:io p) {ri:Int} (hr:0<=ri/\ri<p.rules.length) (hsd:(p.rules.getD ri.toNat au).send.Nodup) (hgc:∀g∈(p.rules.getD ri.toNat au).guards,1<=g.coef) (f:Bool) (n:Nat) (c:aD) (xs:List bX) (h:fp p s c) (h0:0<=c.correct) (hK:c.correct.toNat<=c.states.length)
  (hn:n<=Dl c.states c.correct.toNat c.states.length f (b9 p ri)) (hg:0<n->qE p s c (p.rules.getD ri.toNat au) false) (h1:∀j,0<=c.sent.getD j 0/\c.sent.getD j 0+n<=1000000) (h2:∀j,0<=c.faulty.getD j 0/\c.faulty.getD j 0+n<=1000000):
  ∃d ys,dY p s ri (BS c.correct.toNat f) (Fa c.correct.toNat c.states.length f) n c xs=(d,xs++ys,0)/\ys.length=n/\OW p s (p.rules.getD ri.toNat au) f n c d:=by
 by_cases hn0:n=0
 ·subst hn0
  exact⟨c,[],by rw[List.append_nil];rfl,rfl,⟨h,rfl,rfl,fun y=>by simp,fun y=>rfl,fun j=>by simp,fun j=>by simp⟩⟩
 ·exact zF ht hr hsd hgc f n c xs h h0 hK hn (hg (by omega)) h1 h2
theorem O' {s:aN} {r:bE} {f:Bool} {n:Nat} {c d:aD} (hgc:∀g∈r.guards,1<=g.coef) (h:OW p s r f n c d) (hg:qE p s c r false):qE p s d r false:=by
 intro k hk
 have a:=hg k hk
 have b:=hgc _ (aH aW hk)
 have e1:=h.sen (r.guards.getD k aW).message.toNat
 have e2:=h.fau (r.guards.getD k aW).message.toNat
 unfold w4 at a⊢
 refine Int.le_trans a (Int.mul_le_mul_of_nonneg_left ?_ (by omega))
 have e3:c.sent.getD (r.guards.getD k aW).message.toNat 0<=d.sent.getD (r.guards.getD k aW).message.toNat 0:=by rw[e1];split<;>omega
 have e4:c.faulty.getD (r.guards.getD k aW).message.toNat 0<=d.faulty.getD (r.guards.getD k aW).message.toNat 0:=by rw[e2];split<;>omega
 unfold Bk
 (repeat' split)<;>omega
theorem Pa {L1 L2:List (Nat×Int)} {j:Nat} {r:Int} (h:rJ p q sch x number) (hz:zS p q sch x L1) (hL:Fe p sch=L1++(j,r)::L2):
  (gu p (nW p q sch x) (pV p q sch x L1).1 r (zH p q sch x j r).toNat (zI p q sch x j r).toNat).2.2=0:=by
 have hk:=xO h hz
 have hvl:=(bf h.sol.prp).vld
 have hn:=cL h.sol.prp sch
 have hfin:=pW h hz
 have hmem:(j,r)∈Fe p sch:=by rw[hL];simp
 obtain⟨_,hr⟩:=hZ.1 hmem
 dsimp only at hr
 have hri:=sk hvl |>.1 hr
 have hcf:uP p (nw p q sch x L1) (nw p q sch x L1).steps.length=(pV p q sch x L1).1:=hfin.2.2.1
 have hrd:=IY hk (Nat.le_refl _)
 obtain⟨ec,el⟩:=O8 hk
 obtain⟨c0,_,c2,_⟩:=O7 hk
 have hcn:∀(b:Bool) (m:Nat),0<=(IP b (uP p (nw p q sch x L1) (nw p q sch x L1).steps.length)).getD m 0/\(IP b (uP p (nw p q sch x L1) (nw p q sch x L1).steps.length)).getD m 0<=48:=fun b m=>by
  have e:=BV hk.thr hk.rdy hk.run b m (zN hk b m) _ (Nat.le_refl _)
  have hl:=hk.len
  have g1:=IK (f:=MQ p (nw p q sch x L1).start.correct b m (nw p q sch x L1).steps) (n:=(nw p q sch x L1).steps.length) fun i _=>by unfold MQ;split<;>omega
  have g2:=I6 (f:=MQ p (nw p q sch x L1).start.correct b m (nw p q sch x L1).steps) (n:=(nw p q sch x L1).steps.length) fun i _=>by unfold MQ;split<;>omega
  rw[show(IP b (uP p (nw p q sch x L1) (nw p q sch x L1).steps.length)).getD m 0=_ from e]
  omega
 rw[hcf] at hrd ec el hcn
 have o5:∀hv:(⟨5,j,r⟩:Vb)∈ao p q sch,_:=DD h hz hL (start:=3) (b:=true) (.inl ⟨rfl,rfl,rfl⟩)
 have o6:∀hv:(⟨6,j,r⟩:Vb)∈ao p q sch,_:=DD h hz hL (start:=4) (b:=false) (.inr ⟨rfl,rfl,rfl⟩)
 have hgu:∀fire:Int,5<=fire->(⟨fire,j,r⟩:Vb)∈ao p q sch->qE p (nW p q sch x) (pV p q sch x L1).1 (p.rules.getD r.toNat au) false:=fun fire hf hv k hkk=>by
  obtain⟨m,hm,e⟩:=LO hf hv _ (aH aW hkk)
  obtain⟨i,hi,ei,hu⟩:=LN h hz hL hm
  rw[ei,tN] at e
  unfold nO at hu
  rw[e] at hu
  exact hu
 have t5b:=h.sol.five j r hr
 have t6b:=h.sol.six j r hr
 have t5v:0<(zH p q sch x j r).toNat->(⟨5,j,r⟩:Vb)∈ao p q sch:=fun hh=>xN h (show 0<iJ (ao p q sch) x 5 j r by have:0<(iJ (ao p q sch) x 5 j r).toNat:=hh;omega)
 have t6v:0<(zI p q sch x j r).toNat->(⟨6,j,r⟩:Vb)∈ao p q sch:=fun hh=>xN h (show 0<iJ (ao p q sch) x 6 j r by have:0<(iJ (ao p q sch) x 6 j r).toNat:=hh;omega)
 have t5a:(⟨5,j,r⟩:Vb)∈ao p q sch->zH p q sch x j r=aX p q sch x ⟨5,j,r⟩:=fun hv=>by
  show iJ (ao p q sch) x 5 j r=_
  rw[lH hn,if_pos hv]
 have t6a:(⟨6,j,r⟩:Vb)∈ao p q sch->zI p q sch x j r=aX p q sch x ⟨6,j,r⟩:=fun hv=>by
  show iJ (ao p q sch) x 6 j r=_
  rw[lH hn,if_pos hv]
 have n5b:(zH p q sch x j r).toNat<=8:=by
  have:zH p q sch x j r<=8:=t5b.2
  omega
 have n6b:(zI p q sch x j r).toNat<=8:=by
  have:zI p q sch x j r<=8:=t6b.2
  omega
 generalize zH p q sch x j r=T5 at*
 generalize zI p q sch x j r=T6 at*
 clear t5b t6b
 generalize (pV p q sch x L1).1=c at*
 replace ec:c.correct=(bw p q (aX p q sch x)).correct:=ec
 replace el:c.states.length=(bw p q (aX p q sch x)).states.length:=el
 replace c0:0<=(bw p q (aX p q sch x)).correct:=c0
 replace c2:(bw p q (aX p q sch x)).correct<=(bw p q (aX p q sch x)).states.length:=c2
 have hc0:0<=c.correct:=by omega
 have hcK:c.correct.toNat<=c.states.length:=by omega
 have b5:=DC hc0 hcK (b9 p r) false
 have b6:=DC hc0 hcK (b9 p r) true
 rw[ec,el] at b5 b6
 have hrul:=dK hvl (i:=r.toNat) (by omega)
 have hsd:=vT hrul (h.sol.thr.2.2 r.toNat (by omega)).1
 have hgc:∀g∈(p.rules.getD r.toNat au).guards,1<=g.coef:=fun g hg=>(lB ((a9 hvl).rul r.toNat (by omega)) hg).2.1.1
 have hs1:∀m,0<=c.sent.getD m 0/\c.sent.getD m 0<=48:=hcn true
 have hs2:∀m,0<=c.faulty.getD m 0/\c.faulty.getD m 0<=48:=hcn false
 obtain⟨d,ys,e1,e2,e3⟩:=zW h.sol.thr hri hsd hgc false T5.toNat c [] hrd hc0 hcK (by
  by_cases hh:0<T5.toNat
  ·have:=o5 (t5v hh)
   have:=t5a (t5v hh)
   rw[ec,el]
   simp only[Bool.not_false] at b5
   omega
  ·omega) (fun hh=>hgu 5 (by decide) (t5v hh)) (fun m=>⟨(hs1 m).1,by have:=(hs1 m).2;omega⟩) (fun m=>⟨(hs2 m).1,by have:=(hs2 m).2;omega⟩)
 have ed:=e3.cor
 have edl:=e3.len
 obtain⟨d2,zs,f1,f2,f3⟩:=zW h.sol.thr hri hsd hgc true T6.toNat d ys e3.rdy (by omega) (by omega) (by
  have ho:=e3.oth (b9 p r)
  simp only[Bool.not_false] at ho
  rw[ed,edl,ho]
  by_cases hh:0<T6.toNat
  ·have:=o6 (t6v hh)
   have:=t6a (t6v hh)
   rw[ec,el]
   simp only[Bool.not_true] at b6
   omega
  ·omega) (fun hh=>O' hgc e3 (hgu 6 (by decide) (t6v hh))) (fun m=>by have a:=e3.sen m;have b:=hs1 m;split at a<;>omega) (fun m=>by have a:=e3.fau m;have b:=hs2 m;split at a<;>omega)
 rw[ed,edl] at f1
 have e1':dY p (nW p q sch x) r 0 c.correct.toNat T5.toNat c []=(d,ys,0):=e1
 have f1':dY p (nW p q sch x) r c.correct.toNat c.states.length T6.toNat d ys=(d2,ys++zs,0):=f1
 unfold gu
 rw[e1',if_neg (fun y=>y rfl)]
 dsimp only
 rw[f1']
theorem LP (h:rJ p q sch x number):(xF p q sch x).2.2=0:=by
 have hnd:=lK (oz p.rules p.states.length) (sch.length+1) 0
 have hmo:=nv (ord:=iR p.rules p.states.length) (sch.length+1) 0
 have key:∀(L2 L1:List (Nat×Int)),Fe p sch=L1++L2->(pV p q sch x L1).2.2=0->(pV p q sch x (L1++L2)).2.2=0:=by
  intro L2
  induction L2 with
  |nil=>intro L1 _ h0;rwa [List.append_nil]
  |cons y L2 ih=>
   intro L1 hL h0
   obtain⟨j,r⟩:=y
   have hz:zS p q sch x L1:=by
    have hL':kH (iR p.rules p.states.length) (sch.length+1) 0=L1++(j,r)::L2:=hL
    rw[hL'] at hnd hmo
    exact⟨(List.pairwise_append.1 hmo).1,(List.nodup_append.1 hnd).1,fun y hy=>by rw[hL];exact List.mem_append_left _ hy,h0⟩
   have ha:=Pa h hz hL
   have:=ih (L1++[(j,r)]) (by rw[hL];simp) (by
    show(kI p (nW p q sch x) (zH p q sch x) (zI p q sch x) (L1++[(j,r)]) (bw p q (aX p q sch x)) []).2.2=0
    rw[zV _ _ _ _ h0,kJ,if_neg (fun y=>y ha)]
    rfl)
   rw[List.append_assoc] at this
   exact this
 exact key (Fe p sch) [] rfl rfl
end
end
end Go.Proofs.YtekmminpfhacpaaGreatDoor
