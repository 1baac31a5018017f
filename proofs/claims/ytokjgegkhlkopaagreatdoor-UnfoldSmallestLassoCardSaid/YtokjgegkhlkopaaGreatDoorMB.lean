import Derived.Test.YtokjgegkhlkopaaGreatDoorM9
set_option linter.unusedVariables false
set_option linter.unusedSimpArgs false
namespace Go.Proofs.YtokjgegkhlkopaaGreatDoor
set_option maxRecDepth 100000
set_option maxHeartbeats 16000000
theorem oc (ch:Nat->List Int):∀(n:Nat) (w:List Int),w∈ar ch n↔w.length=n/\∀i,i<n->w.getD i 0∈ch i
 |0,w=>by
  simp only[ar,List.mem_singleton]
  constructor
  ·rintro rfl;exact⟨rfl,fun i hi=>by omega⟩
  ·rintro⟨h,_⟩;exact List.length_eq_zero_iff.1 h
 |n+1,w=>by
  simp only[ar,fg,List.mem_flatMap,List.mem_map]
  constructor
  ·rintro⟨a,ha,x,hx,rfl⟩
   obtain⟨h1,h2⟩:=(oc ch n a).1 ha
   refine⟨by simp[h1],fun i hi=>?_⟩
   rw[gD]
   by_cases e:i<n
   ·rw[List.getElem?_append_left (by omega),<-gD]
    exact h2 i e
   ·obtain rfl:i=n:=by omega
    rw[List.getElem?_append_right (by omega),h1,Nat.sub_self]
    exact hx
  ·rintro⟨h1,h2⟩
   refine⟨w.take n,(oc ch n _).2 ⟨by rw[List.length_take];omega,fun i hi=>?_⟩,w.getD n 0,h2 n (by omega),?_⟩
   ·have:=h2 i (by omega)
    rw[gD] at this⊢
    rwa [List.getElem?_take_of_lt hi]
   ·rw[HJ (by omega),<-List.take_succ_eq_append_getElem (by omega),List.take_of_length_le (by omega)]
theorem KB {p:ao} {q:bn} (hv:cq p q=0) (s:az) (k:Nat):Cb (cK p q s k)/\kX (cK p q s k) p.states.length:=by
 obtain⟨_,h1,h2⟩:=pB (pC hv)
 have h3:=(xL hv).1
 have a1:=qb h1
 have a2:=qb h2
 have a3:=qb h3
 unfold cK HH
 (repeat' split)<;>exact⟨And.right ‹_›,And.left ‹_›⟩
theorem Fq {l:List Int} {n:Int} (h:kX l n) {x:Int} (hx:x∈l):0<=x/\x<n:=by
 obtain⟨i,hi,rfl⟩:=List.mem_iff_getElem.1 hx
 have:=h i hi
 rwa [HJ hi] at this
theorem oe (n j:Nat):(List.replicate n (0:Int)).getD j 0=0:=by
 rw[gD]
 by_cases h:j<n
 ·rw[List.getElem?_replicate_of_lt h];rfl
 ·rw[List.getElem?_eq_none (by simp;omega)];rfl
theorem A7 {l:List Int} {n:Nat} (h1:l.length=n) (h2:∀j,j<l.length->l.getD j 0=0):List.replicate n 0=l:=by
 symm
 rw[List.eq_replicate_iff]
 refine⟨h1,fun b hb=>?_⟩
 obtain⟨i,hi,rfl⟩:=List.mem_iff_getElem.1 hb
 have:=h2 i hi
 rwa [HJ hi] at this
theorem Fr {l:List Int}:iK 1 l=true↔kO l:=by
 have:=p9 l 1
 unfold kO
 rw[show((1:Nat):Int)=1 from rfl] at this
 rw[this,decide_eq_true_iff]
theorem A8 {p:ao} {q:bn} {s:az} {c:ap} (hv:cq p q=0) (hz:cT p s=0):c∈dk p s (i6 p s) (ar (cK p q s) (ee p s).toNat)↔lH p q s c:=by
 have hsz:=dM hz
 have hm0:0<=ee p s:=by unfold ee;split<;>omega
 have hw0:0<=Dh p:=by unfold Dh;split<;>omega
 simp only[dk,List.mem_flatMap,List.mem_map]
 constructor
 ·rintro⟨sh,hsh,st,hst,rfl⟩
  obtain⟨g1,g2⟩:=(oc _ _ _).1 hst
  refine⟨⟨by show(st.length:Int)=_;omega,fun j hj=>?_,rfl,by simp[dE],fun j hj=>?_,by simp[dE],fun j hj=>?_,Int.le_refl _, .inl (show(0:Int)<1 by decide),fun ht=>?_,fun ht=>?_⟩,rfl,fun j hj=>⟨oe _ _,oe _ _⟩,fun i hi=>g2 i (by rw[<-g1];exact hi)⟩
  ·have hj':j<st.length:=hj
   exact Fq (KB hv s j).2 (g2 j (by omega))
  ·show 0<=(List.replicate _ (0:Int)).getD j 0/\(List.replicate _ (0:Int)).getD j 0<_
   rw[oe];omega
  ·show 0<=(List.replicate _ (0:Int)).getD j 0/\(List.replicate _ (0:Int)).getD j 0<_
   rw[oe];omega
  ·unfold i6 at hsh
   rw[if_pos ht] at hsh
   obtain⟨e1,e2⟩:=L8 (by omega) hsh
   exact⟨by show(sh.length:Int)=_;omega,Fr.1 e1⟩
  ·unfold i6 at hsh
   rw[if_neg ht,List.mem_singleton] at hsh
   show sh.length=0
   rw[hsh];rfl
 ·rintro⟨hvc,hval,hzero,hst⟩
  have hlen:=hvc.len
  refine⟨c.shape,?_,c.states,(oc _ _ _).2 ⟨by omega,fun i hi=>hst i (by omega)⟩,?_⟩
  ·unfold i6
   by_cases ht:p.topology=4
   ·rw[if_pos ht]
    obtain⟨e1,e2⟩:=hvc.tre ht
    have:=J1 (l:=c.shape) (by omega) (by omega)
    rw[Fr.2 e2] at this
    have:=of_decide_eq_true this.symm
    rwa [show c.shape.length=s.n.toNat by omega] at this
   ·rw[if_neg ht,List.mem_singleton]
    exact List.length_eq_zero_iff.1 (hvc.non ht)
  ·have hsf:=hvc.snl.trans hvc.fal.symm
   have e1:=A7 hvc.snl fun j hj=>(hzero j hj).1
   have e2:=A7 hvc.fal fun j hj=>(hzero j (by omega)).2
   have e3:=hvc.cor
   obtain⟨c1,c2,c3,c4,c5,c6⟩:=c
   simp only at e1 e2 e3 hval
   unfold dE
   rw[ap.mk.injEq]
   exact⟨rfl,rfl,e3.symm,e1,e2,hval.symm⟩
noncomputable def KC (p:ao) (q:bn) (s:az):AV:=if dB p q s≠0 then pA [] (dB p q s) else pO p q s
theorem CM (p:ao) (q:bn) (s:az):∃l e,pO p q s=pA l e:=by
 unfold pO
 split
 ·exact⟨_,_,rfl⟩
 ·exact⟨_,_,rfl⟩
noncomputable def vO (p:ao) (q:bn) (s:az):List ap×Bool:=if n5 (i6 p s).length (cK p q s) (ee p s).toNat then(dk p s (i6 p s) (ar (cK p q s) (ee p s).toNat),true) else([],false)
def NK (d:List ap×Bool):AV->Prop:=fun u=>u= .tup [.sl aC bg d.1, .bool d.2]\/u= .tup [.nilsl, .bool false]/\d=([],false)
theorem HO (p:ao) (q:bn) (s:az) (hp:¬b9 p):∃l e,KC p q s=pA l e/\l.length<=4000/\∀d∈l,bc d=false:=by
 unfold KC
 by_cases h0:dB p q s≠0
 ·rw[if_pos h0];exact⟨[],_,rfl,by simp,by simp⟩
 rw[if_neg h0]
 have hz:=vK (p:=p) (q:=q) (s:=s) (by omega)
 unfold pO
 by_cases hB:n5 (i6 p s).length (cK p q s) (ee p s).toNat
 ·rw[if_pos hB]
  refine⟨_,_,rfl,?_,fun d hd=>?_⟩
  ·have hF1:1<=(i6 p s).length/\(i6 p s).length<=5:=by
    unfold i6
    by_cases hT:p.topology=4
    ·rw[if_pos hT]
     obtain⟨m,hm,hsn⟩:=rU hz.2 hT
     have a1:=o6 m hm
     have a2:=(fR (n:=2*m+1) (by omega)).1
     rw[hsn,tN]
     exact⟨a1,a2⟩
    ·rw[if_neg hT];exact⟨Nat.le_refl _,by decide⟩
   rw[rV]
   exact(n6 hF1.1 hF1.2 hB _ (Nat.le_refl _)).2
  ·have hv:=((A8 hz.1 hz.2).1 hd).1
   have hsz:=dM hz.2
   have hle:=aF hp
   have hl:=hv.len
   have h1:ee p s<=8:=by unfold ee;split<;>omega
   have h2:=hv.snl
   have h3:=hv.fal
   have h4:d.shape.length<=8:=by
    by_cases hT:p.topology=4
    ·have:=(hv.tre hT).1;omega
    ·have:=hv.non hT;omega
   unfold bc
   simp only[Bool.or_eq_false_iff,decide_eq_false_iff_not]
   omega
 ·rw[if_neg hB];exact⟨[],_,rfl,by simp,by simp⟩
end Go.Proofs.YtokjgegkhlkopaaGreatDoor
