import Derived.Test.YtblcpnmnibcbbaaGreatDoorM9
set_option linter.unusedVariables false
set_option linter.unusedSimpArgs false
namespace Go.Proofs.YtblcpnmnibcbbaaGreatDoor
set_option maxRecDepth 100000
set_option maxHeartbeats 16000000
theorem mL (ch:Nat->List Int):∀(n:Nat) (w:List Int),w∈ao ch n↔w.length=n/\∀i,i<n->w.getD i 0∈ch i
 |0,w=>by
  simp only[ao,List.mem_singleton]
  constructor
  ·rintro rfl;exact⟨rfl,fun i hi=>by omega⟩
  ·rintro⟨h,_⟩;exact List.length_eq_zero_iff.1 h
 |n+1,w=>by
  simp only[ao,eI,List.mem_flatMap,List.mem_map]
  constructor
  ·rintro⟨a,ha,x,hx,rfl⟩
   obtain⟨h1,h2⟩:=(mL ch n a).1 ha
   refine⟨by simp[h1],fun i hi=>?_⟩
   rw[gD]
   by_cases e:i<n
   ·rw[List.getElem?_append_left (by omega),<-gD]
    exact h2 i e
   ·obtain rfl:i=n:=by omega
    rw[List.getElem?_append_right (by omega),h1,Nat.sub_self]
    exact hx
  ·rintro⟨h1,h2⟩
   refine⟨w.take n,(mL ch n _).2 ⟨by rw[List.length_take];omega,fun i hi=>?_⟩,w.getD n 0,h2 n (by omega),?_⟩
   ·have:=h2 i (by omega)
    rw[gD] at this⊢
    rwa [List.getElem?_take_of_lt hi]
   ·rw[En (by omega),<-List.take_succ_eq_append_getElem (by omega),List.take_of_length_le (by omega)]
theorem Gh {p:aq} {q:bO} (hv:db p q=0) (s:aB) (k:Nat):yW (cr p q s k)/\jT (cr p q s k) p.states.length:=by
 obtain⟨_,h1,h2⟩:=nZ (n5 hv)
 have h3:=(vb hv).1
 have a1:=oE h1
 have a2:=oE h2
 have a3:=oE h3
 unfold cr Dm
 (repeat' split)<;>exact⟨And.right ‹_›,And.left ‹_›⟩
theorem Ck {l:List Int} {n:Int} (h:jT l n) {x:Int} (hx:x∈l):0<=x/\x<n:=by
 obtain⟨i,hi,rfl⟩:=List.mem_iff_getElem.1 hx
 have:=h i hi
 rwa [En hi] at this
theorem mM (n j:Nat):(List.replicate n (0:Int)).getD j 0=0:=by
 rw[gD]
 by_cases h:j<n
 ·rw[List.getElem?_replicate_of_lt h];rfl
 ·rw[List.getElem?_eq_none (by simp;omega)];rfl
theorem xW {l:List Int} {n:Nat} (h1:l.length=n) (h2:∀j,j<l.length->l.getD j 0=0):List.replicate n 0=l:=by
 symm
 rw[List.eq_replicate_iff]
 refine⟨h1,fun b hb=>?_⟩
 obtain⟨i,hi,rfl⟩:=List.mem_iff_getElem.1 hb
 have:=h2 i hi
 rwa [En hi] at this
theorem Cl {l:List Int}:gT 1 l=true↔ji l:=by
 have:=oB l 1
 unfold ji
 rw[show((1:Nat):Int)=1 from rfl] at this
 rw[this,decide_eq_true_iff]
theorem xX {p:aq} {q:bO} {s:aB} {c:ap} (hv:db p q=0) (hz:cE p s=0):c∈c0 p s (hW p s) (ao (cr p q s) (dL p s).toNat)↔lf p q s c:=by
 have hsz:=dY hz
 have hm0:0<=dL p s:=by unfold dL;split<;>omega
 have hw0:0<=wI p:=by unfold wI;split<;>omega
 simp only[c0,List.mem_flatMap,List.mem_map]
 constructor
 ·rintro⟨sh,hsh,st,hst,rfl⟩
  obtain⟨g1,g2⟩:=(mL _ _ _).1 hst
  refine⟨⟨by show(st.length:Int)=_;omega,fun j hj=>?_,rfl,by simp[dn],fun j hj=>?_,by simp[dn],fun j hj=>?_,Int.le_refl _, .inl (show(0:Int)<1 by decide),fun ht=>?_,fun ht=>?_⟩,rfl,fun j hj=>⟨mM _ _,mM _ _⟩,fun i hi=>g2 i (by rw[<-g1];exact hi)⟩
  ·have hj':j<st.length:=hj
   exact Ck (Gh hv s j).2 (g2 j (by omega))
  ·show 0<=(List.replicate _ (0:Int)).getD j 0/\(List.replicate _ (0:Int)).getD j 0<_
   rw[mM];omega
  ·show 0<=(List.replicate _ (0:Int)).getD j 0/\(List.replicate _ (0:Int)).getD j 0<_
   rw[mM];omega
  ·unfold hW at hsh
   rw[if_pos ht] at hsh
   obtain⟨e1,e2⟩:=Hr (by omega) hsh
   exact⟨by show(sh.length:Int)=_;omega,Cl.1 e1⟩
  ·unfold hW at hsh
   rw[if_neg ht,List.mem_singleton] at hsh
   show sh.length=0
   rw[hsh];rfl
 ·rintro⟨hvc,hval,hzero,hst⟩
  have hlen:=hvc.len
  refine⟨c.shape,?_,c.states,(mL _ _ _).2 ⟨by omega,fun i hi=>hst i (by omega)⟩,?_⟩
  ·unfold hW
   by_cases ht:p.topology=4
   ·rw[if_pos ht]
    obtain⟨e1,e2⟩:=hvc.tre ht
    have:=FV (l:=c.shape) (by omega) (by omega)
    rw[Cl.2 e2] at this
    have:=of_decide_eq_true this.symm
    rwa [show c.shape.length=s.n.toNat by omega] at this
   ·rw[if_neg ht,List.mem_singleton]
    exact List.length_eq_zero_iff.1 (hvc.non ht)
  ·have hsf:=hvc.snl.trans hvc.fal.symm
   have e1:=xW hvc.snl fun j hj=>(hzero j hj).1
   have e2:=xW hvc.fal fun j hj=>(hzero j (by omega)).2
   have e3:=hvc.cor
   obtain⟨c1,c2,c3,c4,c5,c6⟩:=c
   simp only at e1 e2 e3 hval
   unfold dn
   rw[ap.mk.injEq]
   exact⟨rfl,rfl,e3.symm,e1,e2,hval.symm⟩
noncomputable def Gi (p:aq) (q:bO) (s:aB):AV:=if fO p q s≠0 then nz [] (fO p q s) else oj p q s
theorem zE (p:aq) (q:bO) (s:aB):∃l e,oj p q s=nz l e:=by
 unfold oj
 split
 ·exact⟨_,_,rfl⟩
 ·exact⟨_,_,rfl⟩
noncomputable def th (p:aq) (q:bO) (s:aB):List ap×Bool:=if mE (hW p s).length (cr p q s) (dL p s).toNat then(c0 p s (hW p s) (ao (cr p q s) (dL p s).toNat),true) else([],false)
def I4 (d:List ap×Bool):AV->Prop:=fun u=>u= .tup [.sl aA aY d.1, .bool d.2]\/u= .tup [.nilsl, .bool false]/\d=([],false)
theorem Et (p:aq) (q:bO) (s:aB) (hp:¬bV p):∃l e,Gi p q s=nz l e/\l.length<=4000/\∀d∈l,aX d=false:=by
 unfold Gi
 by_cases h0:fO p q s≠0
 ·rw[if_pos h0];exact⟨[],_,rfl,by simp,by simp⟩
 rw[if_neg h0]
 have hz:=oI (p:=p) (q:=q) (s:=s) (by omega)
 unfold oj
 by_cases hB:mE (hW p s).length (cr p q s) (dL p s).toNat
 ·rw[if_pos hB]
  refine⟨_,_,rfl,?_,fun d hd=>?_⟩
  ·have hF1:1<=(hW p s).length/\(hW p s).length<=5:=by
    unfold hW
    by_cases hT:p.topology=4
    ·rw[if_pos hT]
     obtain⟨m,hm,hsn⟩:=qe hz.2 hT
     have a1:=nC m hm
     have a2:=(fv (n:=2*m+1) (by omega)).1
     rw[hsn,tN]
     exact⟨a1,a2⟩
    ·rw[if_neg hT];exact⟨Nat.le_refl _,by decide⟩
   rw[qf]
   exact(mF hF1.1 hF1.2 hB _ (Nat.le_refl _)).2
  ·have hv:=((xX hz.1 hz.2).1 hd).1
   have hsz:=dY hz.2
   have hle:=aC hp
   have hl:=hv.len
   have h1:dL p s<=8:=by unfold dL;split<;>omega
   have h2:=hv.snl
   have h3:=hv.fal
   have h4:d.shape.length<=8:=by
    by_cases hT:p.topology=4
    ·have:=(hv.tre hT).1;omega
    ·have:=hv.non hT;omega
   unfold aX
   simp only[Bool.or_eq_false_iff,decide_eq_false_iff_not]
   omega
 ·rw[if_neg hB];exact⟨[],_,rfl,by simp,by simp⟩
end Go.Proofs.YtblcpnmnibcbbaaGreatDoor
