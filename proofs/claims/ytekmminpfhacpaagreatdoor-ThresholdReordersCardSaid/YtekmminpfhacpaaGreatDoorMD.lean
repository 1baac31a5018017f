import Derived.Test.YtekmminpfhacpaaGreatDoorF2
import Derived.Test.YtekmminpfhacpaaGreatDoorFpNs
import Derived.Sort.EveryDepth
import Derived.Shelf.Slices.In.SortAlone
import Derived.Shelf.Slices.In.SortNone
import Derived.Test.YtekmminpfhacpaaGreatDoorM6
import Derived.Test.YtekmminpfhacpaaGreatDoorM7
set_option linter.unusedVariables false
set_option linter.unusedSimpArgs false
namespace Go.Proofs.YtekmminpfhacpaaGreatDoor
theorem zG:∀{l m:List Int},l.Perm m->l.Pairwise (·<=·)->m.Pairwise (·<=·)->l=m:=by
 intro l m h hl hm
 exact h.eq_of_pairwise (fun a b _ _ h1 h2=>Int.le_antisymm h1 h2) hl hm
structure GU (l:List Int) (i k:Nat):Prop where
 low:∀a b,a<b->b<=i->b≠k->a≠k->l.getD a 0<=l.getD b 0
 high:∀b,k<b->b<=i->l.getD k 0<=l.getD b 0
theorem GU.start {l:List Int} {i:Nat} (h:∀a b,a<b->b<i->l.getD a 0<=l.getD b 0):GU l i i:=
 ⟨fun a b h1 h2 h3 _=>h a b h1 (by omega),fun b h1 h2=>by omega⟩
def fO (l:List Int):List Int:=l.mergeSort fun x y=>decide (x<=y)
theorem jN (l:List Int):(fO l).Perm l:=List.mergeSort_perm _ _
theorem oi (l:List Int):(fO l).length=l.length:=(jN l).length_eq
theorem Bv (l:List Int):(fO l).Pairwise (·<=·):=by
 have:=List.pairwise_mergeSort (le:=fun x y:Int=>decide (x<=y)) (fun a b c h1 h2=>by simp at*;omega) (fun a b=>by simp;omega) l
 exact this.imp (by simp)
theorem Jm {l m:List Int} (h:m.Perm l) (hm:m.Pairwise (·<=·)):m=fO l:=zG (h.trans (jN l).symm) hm (Bv l)
def gZ (l:List Int) (lo n:Nat):List Int:=l.take lo++(fO ((l.drop lo).take n)++l.drop (lo+n))
theorem jO {l:List Int} {lo n:Nat} (h:lo+n<=l.length):(gZ l lo n).length=l.length:=by
 simp only[gZ,List.length_append,oi,List.length_take,List.length_drop];omega
end Go.Proofs.YtekmminpfhacpaaGreatDoor
namespace Go.Proofs.YtekmminpfhacpaaGreatDoor
open Go.Sort
section
variable {S F:ai} {ρ:aD} {M:aj} {w:World} {P:Program}
theorem aE.growS (h:aE S F ρ M w) (os:Array Obj):aE S F ρ M (Go.Sort.grow w os):=by
 have old:∀(T:ai),T.inW w->T.inW (Go.Sort.grow w os):=fun T hT b o e=>by
  have:=hT b o e
  rw[heap_grow_old w os (Array.getElem?_eq_some_iff.1 this).1];exact this
 refine⟨old _ h.sw,old _ h.fw,h.sf,h.dom,fun ℓ B hB=>?_,h.inj,h.gl⟩
 obtain⟨b,hb,hr⟩:=h.blk _ _ hB
 exact⟨b,hb,hr.keep (ai.le_refl _) (aD.le_refl _) fun hl=>⟨heap_grow_old w os (hr.lt hl),rfl⟩⟩
theorem dk.grow {w w':World} (h:dk w w') (os:Array Obj):dk w (Go.Sort.grow w' os):=
 ⟨h.os,h.output,h.tape,h.dr,by rw[size_grow];have:=h.size;omega,fun a ha=>(frozen?_grow w' os a (Nat.lt_of_lt_of_le ha h.size)).trans (h.fz a ha)⟩
theorem aj.set_self {M:aj} {ℓ:Nat} {B:cp} (h:M ℓ=some B):M.set ℓ B=M:=by
 funext x
 by_cases e:x=ℓ
 ·subst e;rw[aj.set_eq,h]
 ·rw[aj.set_ne _ _ e]
theorem am.sort {f:FuncId} (hP:mq P f)
  (hS:∀(blk off cap:Nat) (zs:List Int) (w:World),Holds (Value.int .i64) w blk off zs.toArray->blk<w.heap.size->zs.length<4611686018427387904->
   Calls P f #[.slice (some ⟨blk,off,none⟩) zs.length cap] w fun e w'=>e= .returned (.tuple #[])/\∃n os,w'=Go.Sort.grow (putRow (Value.int .i64) (Go.Sort.ahead w n) blk off (zs.mergeSort fun x y=>decide (x<=y)).toArray) os)
  (h0:∀(p:Option Addr) (cap:Nat) (w:World),Calls P f #[.slice p 0 cap] w fun e w'=>e= .returned (.tuple #[])/\w'=w)
  {ℓ lo n:Nat} {t:TypeId} {l:List Int} (hl:M ℓ=some (.row t 0 ao l)) (hn:lo+n<=l.length) (hbig:l.length<4611686018427387904) {K:AV->aj->Prop}
  (hK:K (.tup []) (M.set ℓ (.row t 0 ao (gZ l lo n)))):am P f [.part ℓ lo n 1] M K:=by
 rw[cm]
 refine⟨hP,fun S F ρ vs w hM hv=>?_⟩
 obtain⟨v,vs',rfl,hv1,hv2⟩:=hv.cons_inv
 have:=hv2.nil_inv
 subst this
 obtain⟨b,a,c,hb,hs,hlen,hpos,rfl⟩:=hv1.part_inv
 by_cases hz:n=0
 ·subst hz
  refine(h0 a c w).mono ?_
  rintro e w' ⟨rfl,rfl⟩
  have e1:gZ l lo 0=l:=by
   have:fO []=[]:=List.eq_nil_of_length_eq_zero (oi [])
   simp[gZ,this]
  rw[e1,aj.set_self hl] at hK
  exact⟨_,_,M,S,ρ,rfl,hK,ai.le_refl _,aD.le_refl _,hM,RV.tup_mk (vs:=[]) (bf.nil _ _),dk.refl _⟩
 obtain⟨hnil,rfl⟩:=hpos (by omega)
 obtain⟨b',hb',hblen,hszs,hcase⟩:=hM.blk _ _ hl
 rw[hb] at hb';cases hb'
 rcases hcase with ⟨h,_⟩|⟨_,hcap,cs,hheap,hcs,hcell,hSb,hFb⟩
 ·rw[hnil] at h;cases h
 rw[hs] at hcell hcs
 have hzlen:((l.drop lo).take n).length=n:=by rw[List.length_take,List.length_drop];omega
 have hat:∀i x,l[i]? =some x->cs[i]? =some (Value.int .i64 x):=fun i x hx=>by
  obtain⟨v,h1,h2⟩:=hcell i x 0 (.int .i64 x) hx rfl
  cases h2
  simpa using h1
 have hat2:∀j,j<n->cs[lo+j]? =some (Value.int .i64 (((l.drop lo).take n).toArray[j]!)):=fun j hj=>by
  apply hat
  have e1:((l.drop lo).take n)[j]? =l[lo+j]?:=by rw[List.getElem?_take,if_pos hj,List.getElem?_drop]
  have hj':j<((l.drop lo).take n).length:=by omega
  rw[<-e1,getElem!_pos _ j (by simpa using hj')]
  simp only[List.getElem_toArray]
  exact gL hj'
 have hlt:=cx hheap
 have hH:Holds (Value.int .i64) w b.blk lo ((l.drop lo).take n).toArray:=fun j hj=>by
  have hj:j<n:=by simpa[hzlen] using hj
  refine⟨?_,?_⟩
  ·simp only[World.cell?,hheap]
   exact hat2 j hj
  ·simp[World.frozen?,hheap]
 have hcall:=hS b.blk lo c ((l.drop lo).take n) w hH hlt (by omega)
 rw[hzlen] at hcall
 rw[hs,Nat.mul_one]
 refine hcall.mono ?_
 rintro e w' ⟨rfl,q,os,rfl⟩
 let ys:=fO ((l.drop lo).take n)
 have hyl:ys.length=n:=by rw[oi,hzlen]
 let w1:=putRow (Value.int .i64) (Go.Sort.ahead w q) b.blk lo ys.toArray
 have hh1:∀k,k≠b.blk->w1.heap[k]? =w.heap[k]?:=fun k hk=>by
  show(w.heap.modify b.blk _)[k]? =_
  rw[Array.getElem?_modify,if_neg (fun e=>hk e.symm)]
 have hh2:w1.heap[b.blk]? =some (.cells (putCells (Value.int .i64) lo ys.toArray cs) t (0,0)):=by
  show(w.heap.modify b.blk _)[b.blk]? =_
  rw[Array.getElem?_modify,if_pos rfl,hheap];rfl
 have hM1:aE S F ρ (M.set ℓ (.row t 0 ao (gZ l lo n))) w1:=by
  refine hM.upd hl hb (fun k hk=>hh1 k (hk.elim id fun h=>absurd hnil h)) (fun _=>hnil) ?_
  refine⟨by rw[jO hn];exact hblen,fun x _=>⟨by rw[hs];rfl,rfl⟩, .inr ⟨hnil,by rw[jO hn];exact hcap,_,hh2,by rw[hs,<-hcs];simp[putCells],fun i x j u hx hu=>?_,hSb,hFb⟩⟩
  have hj:j=0:=by
   cases j with
   |zero=>rfl
   |succ j=>simp[ao] at hu
  subst hj
  cases hu
  rw[hs,Nat.mul_one,Nat.add_zero]
  simp only[putCells,Array.getElem?_mapIdx]
  have hil:i<l.length:=by
   have:=(List.getElem?_eq_some_iff.1 hx).1
   rwa [jO hn] at this
  have hc1:=hat i l[i] (gL hil)
  rw[hc1,Option.map_some]
  refine⟨_,rfl,?_⟩
  have htl:(l.take lo).length=lo:=by rw[List.length_take];omega
  unfold gZ at hx
  by_cases c1:i<lo
  ·rw[List.getElem?_append_left (by omega),List.getElem?_take,if_pos c1,gL hil] at hx
   cases hx
   rw[if_neg (by omega)]
   exact .int _ _
  ·rw[List.getElem?_append_right (by omega),htl] at hx
   by_cases c2:i<lo+n
   ·have hi2:i-lo<ys.length:=by omega
    rw[List.getElem?_append_left hi2,gL hi2] at hx
    cases hx
    rw[if_pos ⟨by omega,by simp;omega⟩,getElem!_pos _ _ (by simpa using hi2)]
    simp only[List.getElem_toArray]
    exact .int _ _
   ·rw[List.getElem?_append_right (by show ys.length<=_;omega),List.getElem?_drop] at hx
    have e2:lo+n+(i-lo-(fO ((l.drop lo).take n)).length)=i:=by
     have:(fO ((l.drop lo).take n)).length=n:=hyl
     omega
    rw[e2,gL hil] at hx
    cases hx
    rw[if_neg (by simp;omega)]
    exact .int _ _
 have hW1:dk w w1:=⟨rfl,rfl,rfl,Nat.le_add_right _ _,by show w.heap.size<=(w.heap.modify _ _).size;simp,fun x hx=>by
  show(putRow (Value.int .i64) (Go.Sort.ahead w q) b.blk lo ys.toArray).frozen? x=_
  rw[frozen?_putRow];rfl⟩
 exact⟨_,_,_,S,ρ,rfl,hK,ai.le_refl _,aD.le_refl _,hM1.growS os,RV.tup_mk (vs:=[]) (bf.nil _ _),hW1.grow os⟩
end
theorem J1:mq Tryz.prog 190:=⟨_,Tryz.func190,rfl,rfl⟩
theorem J2 (blk off cap:Nat) (zs:List Int) (w:World) (hH:Holds (Value.int .i64) w blk off zs.toArray) (hb:blk<w.heap.size) (hs:zs.length<4611686018427387904):
  Calls Tryz.prog 190 #[.slice (some ⟨blk,off,none⟩) zs.length cap] w fun e w'=>e= .returned (.tuple #[])/\∃n os,w'=Go.Sort.grow (putRow (Value.int .i64) (Go.Sort.ahead w n) blk off (zs.mergeSort fun x y=>decide (x<=y)).toArray) os:=
 calls_of_every_depth fun D=>AnyS.slices_Sort_int_alone Tryz.laysSort D blk off cap zs w hH hb hs
theorem J3 (p:Option Addr) (cap:Nat) (w:World):Calls Tryz.prog 190 #[.slice p 0 cap] w fun e w'=>e= .returned (.tuple #[])/\w'=w:=
 calls_of_every_depth fun D=>AnyS.slices_Sort_int_none_alone Tryz.laysSort D p cap w
end Go.Proofs.YtekmminpfhacpaaGreatDoor
namespace Go.Proofs.YtekmminpfhacpaaGreatDoor
set_option maxRecDepth 100000
theorem C1 {l:List Int} {k:Nat} (h:k<=l.length):fO (l.take k)++fO (l.drop k)=gZ (gZ l 0 k) k (l.length-k):=by
 have hn:(fO (l.take k)).length=k:=by rw[oi,List.length_take];omega
 have e1:gZ l 0 k=fO (l.take k)++l.drop k:=by simp[gZ]
 have hd:(fO (l.take k)++l.drop k).drop k=l.drop k:=by
  rw[List.drop_append,hn,Nat.sub_self,List.drop_of_length_le (by omega)];rfl
 have ht:(fO (l.take k)++l.drop k).take k=fO (l.take k):=by
  rw[List.take_append_of_le_length (by omega)];exact List.take_of_length_le (by omega)
 have hx:(l.drop k).take (l.length-k)=l.drop k:=List.take_of_length_le (by rw[List.length_drop];omega)
 have hy:(fO (l.take k)++l.drop k).drop (k+(l.length-k))=[]:=List.drop_of_length_le (by rw[List.length_append,hn,List.length_drop];omega)
 rw[e1,gZ,ht,hd,hx,hy,List.append_nil]
def iM (p:an) (c:az):az:=if p.topology=1 then⟨c.shape,fO (c.states.take c.correct.toNat)++fO (c.states.drop c.correct.toNat),c.correct,c.sent,c.faulty,c.value⟩ else c
theorem Jn {p:an} (c:az) (h:p.topology≠1):iM p c=c:=if_neg h
theorem sk {p:an} (c:az) (h:p.topology=1):iM p c=⟨c.shape,fO (c.states.take c.correct.toNat)++fO (c.states.drop c.correct.toNat),c.correct,c.sent,c.faulty,c.value⟩:=if_pos h
theorem zH (p:an) (c:az):(iM p c).shape=c.shape:=by unfold iM;split<;>rfl
theorem C2 (p:an) (c:az):(iM p c).sent=c.sent:=by unfold iM;split<;>rfl
theorem xW (p:an) (c:az):(iM p c).faulty=c.faulty:=by unfold iM;split<;>rfl
theorem C3 (p:an) (c:az):(iM p c).states.Perm c.states:=by
 unfold iM
 split
 ·have:=(jN (c.states.take c.correct.toNat)).append (jN (c.states.drop c.correct.toNat))
  rwa [List.take_append_drop] at this
 ·exact List.Perm.refl _
theorem GV (p:an) (c:az):(iM p c).states.length=c.states.length:=(C3 p c).length_eq
theorem C4 (p:an) (c:az):bA (iM p c)=bA c:=by
 unfold bA;rw[zH,C2,xW,GV]
set_option maxHeartbeats 16000000
theorem zI (p:an) (c:az) (hw:bA c=false) (hpl:Ex p c):ab Tryz.prog 100 [.agg (aR p), .agg (aW c)] (fun u=>u= .agg (aW (iM p c))):=by
 have hc:=bE hw
 obtain⟨_,h0,h1⟩:=hpl
 by_cases ht:p.topology=1
 ·have hst:fO (c.states.take c.correct.toNat)++fO (c.states.drop c.correct.toNat)=gZ (gZ c.states (Int.toNat 0) (c.correct-0).toNat) c.correct.toNat ((c.states.length:Int)-c.correct).toNat:=by
   rw[Int.sub_zero,show Int.toNat 0=0 from rfl,show((c.states.length:Int)-c.correct).toNat=c.states.length-c.correct.toNat by omega]
   exact C1 (by omega)
  have e:iM p c=⟨c.shape,gZ (gZ c.states (Int.toNat 0) (c.correct-0).toNat) c.correct.toNat ((c.states.length:Int)-c.correct).toNat,c.correct,c.sent,c.faulty,c.value⟩:=by rw[sk c ht,hst]
  rw[e]
  clear e hst
  refine ab.intro ae ag Tryz.func100 rfl (by decide) ?_;(conv=>whnf)
  refine al rfl ?_
  conv=>whnf
  refine al rfl ?_
  conv=>whnf
  refine am.news 400 (zm 5 9 13 17) (rP c) (pS c) (rQ c hw) (aa) rfl FV ?_
  conv=>whnf
  refine cC ht ?_
  conv=>whnf
  refine DG ?_
  refine nI ?_
  conv=>whnf
  refine am.sort J1 J2 J3 rfl (by omega) (by omega) ?_
  conv=>whnf
  refine nI ?_
  conv=>whnf
  refine am.sort J1 J2 J3 rfl (by rw[jO (by omega)];omega) (by rw[jO (by omega)];omega) ?_
  conv=>whnf
  exact⟨rfl,rfl⟩
 ·rw[Jn c ht]
  refine ab.intro ae ag Tryz.func100 rfl (by decide) ?_;(conv=>whnf)
  refine al rfl ?_
  conv=>whnf
  refine al rfl ?_
  conv=>whnf
  refine am.news 400 (zm 5 9 13 17) (rP c) (pS c) (rQ c hw) (aa) rfl FV ?_
  conv=>whnf
  refine fP ht ?_
  conv=>whnf
  exact⟨rfl,rfl⟩
def Ov:List AV:=[.nilsl, .nilsl, .int .i64 0, .nilsl, .nilsl, .int .i64 0]
noncomputable def Jo (p:an) (c:az):Int:=if aA p≠0 then aA p else if Ex p c then 0 else 1
noncomputable def Ml (p:an) (c:az):AV:=.tup [.agg (aW (if Jo p c=0 then iM p c else aU)), .int .i64 (Jo p c)]
theorem zJ {p:an} {c:az}:Jo p c=0↔aA p=0/\Ex p c:=by
 unfold Jo
 by_cases h:aA p≠0
 ·rw[if_pos h];exact⟨fun e=>absurd e h,fun e=>absurd e.1 h⟩
 ·rw[if_neg h]
  by_cases h2:Ex p c
  ·rw[if_pos h2];exact⟨fun _=>⟨by omega,h2⟩,fun _=>rfl⟩
  ·rw[if_neg h2];exact⟨fun e=>by omega,fun e=>absurd e.2 h2⟩
theorem zK (p:an) (c:az) (hp:¬dX p) (hw:bA c=false):ab Tryz.prog 34 [.agg (aR p), .agg (aW c)] (fun u=>u=Ml p c):=by
 by_cases h:aA p=0/\Ex p c
 ·have e:Ml p c= .tup [.agg (aW (iM p c)), .int .i64 0]:=by unfold Ml;rw[zJ.2 h,if_pos rfl]
  rw[e]
  refine ab.intro ae ag Tryz.func34 rfl (by decide) ?_;(conv=>whnf)
  refine al rfl ?_
  conv=>whnf
  refine al rfl ?_
  conv=>whnf
  (refine oP (c9 p (lj hp)) ?_;conv=>whnf)
  refine fI ?_
  conv=>whnf
  have hA:=Ez p c hp hw
  rw[if_pos h.2] at hA
  (refine oP (hA) ?_;conv=>whnf)
  repeat' ((first|refine nI ?_|refine aI ?_|refine tI ?_|refine fI ?_|fail);conv=>whnf)
  (refine oP (zI p c hw h.2) ?_;conv=>whnf)
  exact⟨rfl,rfl⟩
 ·have hne:Jo p c≠0:=fun e=>h (zJ.1 e)
  have e:Ml p c= .tup [.agg (aW aU), .int .i64 (Jo p c)]:=by unfold Ml;rw[if_neg hne]
  rw[e]
  refine ab.sub (R:=fun u=>u= .tup [.agg Ov, .int .i64 (Jo p c)]) ?_ (by rintro _ rfl;exact⟨_,rfl,aa,rfl⟩)
  have hn:=Jo.eq_1 p c
  refine ab.intro ae ag Tryz.func34 rfl (by decide) ?_;(conv=>whnf)
  refine al rfl ?_
  conv=>whnf
  refine al rfl ?_
  conv=>whnf
  (refine oP (c9 p (lj hp)) ?_;conv=>whnf)
  refine ah ?_ ?_<;>(intro h1;conv=>whnf)
  ·rw[if_pos h1] at hn
   exact⟨by rw[hn];rfl,rfl⟩
  rw[if_neg h1] at hn
  have h2:¬Ex p c:=fun h2=>h ⟨by omega,h2⟩
  rw[if_neg h2] at hn
  have hA:=Ez p c hp hw
  rw[if_neg h2] at hA
  (refine oP (hA) ?_;conv=>whnf)
  repeat' ((first|refine nI ?_|refine aI ?_|refine tI ?_|refine fI ?_|fail);conv=>whnf)
  exact⟨by rw[hn];rfl,rfl⟩
end Go.Proofs.YtekmminpfhacpaaGreatDoor
