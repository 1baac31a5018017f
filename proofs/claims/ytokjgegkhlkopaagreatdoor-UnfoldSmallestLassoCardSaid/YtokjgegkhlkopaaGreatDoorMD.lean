import Derived.Test.YtokjgegkhlkopaaGreatDoorFpNs
import Derived.Sort.EveryDepth
import Derived.Shelf.Slices.In.SortAlone
import Derived.Shelf.Slices.In.SortNone
import Derived.Test.YtokjgegkhlkopaaGreatDoorMN
set_option linter.unusedVariables false
set_option linter.unusedSimpArgs false
namespace Go.Proofs.YtokjgegkhlkopaaGreatDoor
section
theorem zO:∀{l m:List Int},l.Perm m->l.Pairwise (·<=·)->m.Pairwise (·<=·)->l=m:=by
 intro l m h hl hm
 exact h.eq_of_pairwise (fun a b _ _ h1 h2=>Int.le_antisymm h1 h2) hl hm
def vP (l:List Int) (k:Nat):List Int:=(l.set (k-1) (l.getD k 0)).set k (l.getD (k-1) 0)
theorem xU {l:List Int} {k:Nat} (hk:0<k) (hl:k<l.length) (j:Nat):(vP l k).getD j 0=if j=k then l.getD (k-1) 0 else if j=k-1 then l.getD k 0 else l.getD j 0:=by
 unfold vP
 rw[aB,aB,List.length_set]
 by_cases h1:j=k
 ·rw[if_pos ⟨h1.symm,hl⟩,if_pos h1]
 ·rw[if_neg (fun h=>h1 h.1.symm),if_neg h1]
  by_cases h2:j=k-1
  ·rw[if_pos ⟨h2.symm,by omega⟩,if_pos h2]
  ·rw[if_neg (fun h=>h2 h.1.symm),if_neg h2]
structure r6 (l:List Int) (i k:Nat):Prop where
 low:∀a b,a<b->b<=i->b≠k->a≠k->l.getD a 0<=l.getD b 0
 high:∀b,k<b->b<=i->l.getD k 0<=l.getD b 0
theorem r6.start {l:List Int} {i:Nat} (h:∀a b,a<b->b<i->l.getD a 0<=l.getD b 0):r6 l i i:=
 ⟨fun a b h1 h2 h3 _=>h a b h1 (by omega),fun b h1 h2=>by omega⟩
theorem r6.step {l:List Int} {i k:Nat} (h:r6 l i k) (hk:0<k) (hi:k<=i) (hl:i<l.length) (hg:l.getD k 0<l.getD (k-1) 0):r6 (vP l k) i (k-1):=by
 have hget:=fun j=>xU (l:=l) hk (show k<l.length by omega) j
 refine⟨fun a b h1 h2 h3 h4=>?_,fun b h1 h2=>?_⟩
 ·rw[hget a,hget b]
  by_cases ea:a=k
  ·subst ea
   rw[if_pos rfl,if_neg (by omega),if_neg (by omega)]
   exact h.low (a-1) b (by omega) h2 (by omega) (by omega)
  ·rw[if_neg ea,if_neg h4]
   by_cases eb:b=k
   ·subst eb
    rw[if_pos rfl]
    by_cases e:a=b-1
    ·exact absurd e h4
    ·exact h.low a (b-1) (by omega) (by omega) (by omega) ea
   ·rw[if_neg eb,if_neg h3]
    exact h.low a b h1 h2 eb ea
 ·rw[hget (k-1),if_neg (by omega),if_pos rfl,hget b]
  by_cases eb:b=k
  ·subst eb;rw[if_pos rfl];omega
  ·rw[if_neg eb,if_neg (by omega)]
   exact h.high b (by omega) h2
def df (l:List Int):List Int:=l.mergeSort fun x y=>decide (x<=y)
theorem fC (l:List Int):(df l).Perm l:=List.mergeSort_perm _ _
theorem fU (l:List Int):(df l).length=l.length:=(fC l).length_eq
theorem vQ (l:List Int):(df l).Pairwise (·<=·):=by
 have:=List.pairwise_mergeSort (le:=fun x y:Int=>decide (x<=y)) (fun a b c h1 h2=>by simp at*;omega) (fun a b=>by simp;omega) l
 exact this.imp (by simp)
theorem A9 {l m:List Int} (h:m.Perm l) (hm:m.Pairwise (·<=·)):m=df l:=zO (h.trans (fC l).symm) hm (vQ l)
theorem ui (l:List Int):df (df l)=df l:=(A9 (List.Perm.refl _) (vQ l)).symm
def ib (l:List Int) (lo n:Nat):List Int:=l.take lo++(df ((l.drop lo).take n)++l.drop (lo+n))
theorem jX {l:List Int} {lo n:Nat} (h:lo+n<=l.length):(ib l lo n).length=l.length:=by
 simp only[ib,List.length_append,fU,List.length_take,List.length_drop];omega
end
section
open Go.Sort
section
variable {S F:ag} {ρ:aw} {M:ai} {w:World} {P:Program}
theorem ax.growS (h:ax S F ρ M w) (os:Array Obj):ax S F ρ M (Go.Sort.grow w os):=by
 have old:∀(T:ag),T.inW w->T.inW (Go.Sort.grow w os):=fun T hT b o e=>by
  have:=hT b o e
  rw[heap_grow_old w os (Array.getElem?_eq_some_iff.1 this).1];exact this
 refine⟨old _ h.sw,old _ h.fw,h.sf,h.dom,fun ℓ B hB=>?_,h.inj,h.gl⟩
 obtain⟨b,hb,hr⟩:=h.blk _ _ hB
 exact⟨b,hb,hr.keep (ag.le_refl _) (aw.le_refl _) fun hl=>⟨heap_grow_old w os (hr.lt hl),rfl⟩⟩
theorem ce.grow {w w':World} (h:ce w w') (os:Array Obj):ce w (Go.Sort.grow w' os):=
 ⟨h.os,h.output,h.tape,h.dr,by rw[size_grow];have:=h.size;omega,fun a ha=>(frozen?_grow w' os a (Nat.lt_of_lt_of_le ha h.size)).trans (h.fz a ha)⟩
theorem ai.set_self {M:ai} {ℓ:Nat} {B:aX} (h:M ℓ=some B):M.set ℓ B=M:=by
 funext x
 by_cases e:x=ℓ
 ·subst e;rw[ai.set_eq,h]
 ·rw[ai.set_ne _ _ e]
theorem an.sort {f:FuncId} (hP:lf P f)
  (hS:∀(blk off cap:Nat) (zs:List Int) (w:World),Holds (Value.int .i64) w blk off zs.toArray->blk<w.heap.size->zs.length<4611686018427387904->
   Calls P f #[.slice (some ⟨blk,off,none⟩) zs.length cap] w fun e w'=>e= .returned (.tuple #[])/\∃n os,w'=Go.Sort.grow (putRow (Value.int .i64) (Go.Sort.ahead w n) blk off (zs.mergeSort fun x y=>decide (x<=y)).toArray) os)
  (h0:∀(p:Option Addr) (cap:Nat) (w:World),Calls P f #[.slice p 0 cap] w fun e w'=>e= .returned (.tuple #[])/\w'=w)
  {ℓ lo n:Nat} {t:TypeId} {l:List Int} (hl:M ℓ=some (.row t 0 aD l)) (hn:lo+n<=l.length) (hbig:l.length<4611686018427387904) {K:AV->ai->Prop}
  (hK:K (.tup []) (M.set ℓ (.row t 0 aD (ib l lo n)))):an P f [.part ℓ lo n 1] M K:=by
 rw[bT]
 refine⟨hP,fun S F ρ vs w hM hv=>?_⟩
 obtain⟨v,vs',rfl,hv1,hv2⟩:=hv.cons_inv
 have:=hv2.nil_inv
 subst this
 obtain⟨b,a,c,hb,hs,hlen,hpos,_,rfl⟩:=hv1.part_inv
 by_cases hz:n=0
 ·subst hz
  refine(h0 a c w).mono ?_
  rintro e w' ⟨rfl,rfl⟩
  have e1:ib l lo 0=l:=by
   have:df []=[]:=List.eq_nil_of_length_eq_zero (fU [])
   simp[ib,this]
  rw[e1,ai.set_self hl] at hK
  exact⟨_,_,M,S,ρ,rfl,hK,ag.le_refl _,aw.le_refl _,hM,RV.tup_mk (vs:=[]) (be.nil _ _),ce.refl _⟩
 obtain⟨hnil,rfl⟩:=hpos (by omega)
 obtain⟨b',hb',hblen,hszs,hcase⟩:=hM.blk _ _ hl
 rw[hb] at hb';cases hb'
 rcases hcase with ⟨h,_⟩|⟨_,hcap,cs,hheap,hcs,hcell,hSb,hFb⟩
 ·rw[hnil] at h;cases h
 rw[hs] at hcell hcs
 have hzlen:((l.drop lo).take n).length=n:=by rw[List.length_take,List.length_drop];omega
 have hat:∀i x,l[i]? =some x->cs[i]? =some (Value.int .i64 x):=fun i x hx=>by
  obtain⟨v,h1,h2⟩:=hcell i x 0 (.int .i64 x) hx rfl
  cases h2
  simpa using h1
 have hat2:∀j,j<n->cs[lo+j]? =some (Value.int .i64 (((l.drop lo).take n).toArray[j]!)):=fun j hj=>by
  apply hat
  have e1:((l.drop lo).take n)[j]? =l[lo+j]?:=by rw[List.getElem?_take,if_pos hj,List.getElem?_drop]
  have hj':j<((l.drop lo).take n).length:=by omega
  rw[<-e1,getElem!_pos _ j (by simpa using hj')]
  simp only[List.getElem_toArray]
  exact gL hj'
 have hlt:=cu hheap
 have hH:Holds (Value.int .i64) w b.blk lo ((l.drop lo).take n).toArray:=fun j hj=>by
  have hj:j<n:=by simpa[hzlen] using hj
  refine⟨?_,?_⟩
  ·simp only[World.cell?,hheap]
   exact hat2 j hj
  ·simp[World.frozen?,hheap]
 have hcall:=hS b.blk lo c ((l.drop lo).take n) w hH hlt (by omega)
 rw[hzlen] at hcall
 rw[hs,Nat.mul_one]
 refine hcall.mono ?_
 rintro e w' ⟨rfl,q,os,rfl⟩
 let ys:=df ((l.drop lo).take n)
 have hyl:ys.length=n:=by rw[fU,hzlen]
 let w1:=putRow (Value.int .i64) (Go.Sort.ahead w q) b.blk lo ys.toArray
 have hh1:∀k,k≠b.blk->w1.heap[k]? =w.heap[k]?:=fun k hk=>by
  show(w.heap.modify b.blk _)[k]? =_
  rw[Array.getElem?_modify,if_neg (fun e=>hk e.symm)]
 have hh2:w1.heap[b.blk]? =some (.cells (putCells (Value.int .i64) lo ys.toArray cs) t (0,0)):=by
  show(w.heap.modify b.blk _)[b.blk]? =_
  rw[Array.getElem?_modify,if_pos rfl,hheap];rfl
 have hM1:ax S F ρ (M.set ℓ (.row t 0 aD (ib l lo n))) w1:=by
  refine hM.upd hl hb (fun k hk=>hh1 k (hk.elim id fun h=>absurd hnil h)) (fun _=>hnil) ?_
  refine⟨by rw[jX hn];exact hblen,fun x _=>⟨by rw[hs];rfl,rfl⟩, .inr ⟨hnil,by rw[jX hn];exact hcap,_,hh2,by rw[hs,<-hcs];simp[putCells],fun i x j u hx hu=>?_,hSb,hFb⟩⟩
  have hj:j=0:=by
   cases j with
   |zero=>rfl
   |succ j=>simp[aD] at hu
  subst hj
  cases hu
  rw[hs,Nat.mul_one,Nat.add_zero]
  simp only[putCells,Array.getElem?_mapIdx]
  have hil:i<l.length:=by
   have:=(List.getElem?_eq_some_iff.1 hx).1
   rwa [jX hn] at this
  have hc1:=hat i l[i] (gL hil)
  rw[hc1,Option.map_some]
  refine⟨_,rfl,?_⟩
  have htl:(l.take lo).length=lo:=by rw[List.length_take];omega
  unfold ib at hx
  by_cases c1:i<lo
  ·rw[List.getElem?_append_left (by omega),List.getElem?_take,if_pos c1,gL hil] at hx
   cases hx
   rw[if_neg (by omega)]
   exact .int _ _
  ·rw[List.getElem?_append_right (by omega),htl] at hx
   by_cases c2:i<lo+n
   ·have hi2:i-lo<ys.length:=by omega
    rw[List.getElem?_append_left hi2,gL hi2] at hx
    cases hx
    rw[if_pos ⟨by omega,by simp;omega⟩,getElem!_pos _ _ (by simpa using hi2)]
    simp only[List.getElem_toArray]
    exact .int _ _
   ·rw[List.getElem?_append_right (by show ys.length<=_;omega),List.getElem?_drop] at hx
    have e2:lo+n+(i-lo-(df ((l.drop lo).take n)).length)=i:=by
     have:(df ((l.drop lo).take n)).length=n:=hyl
     omega
    rw[e2,gL hil] at hx
    cases hx
    rw[if_neg (by simp;omega)]
    exact .int _ _
 have hW1:ce w w1:=⟨rfl,rfl,rfl,Nat.le_add_right _ _,by show w.heap.size<=(w.heap.modify _ _).size;simp,fun x hx=>by
  show(putRow (Value.int .i64) (Go.Sort.ahead w q) b.blk lo ys.toArray).frozen? x=_
  rw[frozen?_putRow];rfl⟩
 exact⟨_,_,_,S,ρ,rfl,hK,ag.le_refl _,aw.le_refl _,hM1.growS os,RV.tup_mk (vs:=[]) (be.nil _ _),hW1.grow os⟩
end
theorem Je:lf Tryz.prog 180:=⟨_,Tryz.func180,rfl,rfl⟩
theorem Jf (blk off cap:Nat) (zs:List Int) (w:World) (hH:Holds (Value.int .i64) w blk off zs.toArray) (hb:blk<w.heap.size) (hs:zs.length<4611686018427387904):
  Calls Tryz.prog 180 #[.slice (some ⟨blk,off,none⟩) zs.length cap] w fun e w'=>e= .returned (.tuple #[])/\∃n os,w'=Go.Sort.grow (putRow (Value.int .i64) (Go.Sort.ahead w n) blk off (zs.mergeSort fun x y=>decide (x<=y)).toArray) os:=
 calls_of_every_depth fun D=>AnyS.slices_Sort_int_alone Tryz.laysSort D blk off cap zs w hH hb hs
theorem Jg (p:Option Addr) (cap:Nat) (w:World):Calls Tryz.prog 180 #[.slice p 0 cap] w fun e w'=>e= .returned (.tuple #[])/\w'=w:=
 calls_of_every_depth fun D=>AnyS.slices_Sort_int_none_alone Tryz.laysSort D p cap w
end
section
set_option maxRecDepth 100000
theorem CQ {l:List Int} {k:Nat} (h:k<=l.length):df (l.take k)++df (l.drop k)=ib (ib l 0 k) k (l.length-k):=by
 have hn:(df (l.take k)).length=k:=by rw[fU,List.length_take];omega
 have e1:ib l 0 k=df (l.take k)++l.drop k:=by simp[ib]
 have hd:(df (l.take k)++l.drop k).drop k=l.drop k:=by
  rw[List.drop_append,hn,Nat.sub_self,List.drop_of_length_le (by omega)];rfl
 have ht:(df (l.take k)++l.drop k).take k=df (l.take k):=by
  rw[List.take_append_of_le_length (by omega)];exact List.take_of_length_le (by omega)
 have hx:(l.drop k).take (l.length-k)=l.drop k:=List.take_of_length_le (by rw[List.length_drop];omega)
 have hy:(df (l.take k)++l.drop k).drop (k+(l.length-k))=[]:=List.drop_of_length_le (by rw[List.length_append,hn,List.length_drop];omega)
 rw[e1,ib,ht,hd,hx,hy,List.append_nil]
def cx (p:ao) (c:ap):ap:=if p.topology=1 then⟨c.shape,df (c.states.take c.correct.toNat)++df (c.states.drop c.correct.toNat),c.correct,c.sent,c.faulty,c.value⟩ else c
theorem kJ {p:ao} (c:ap) (h:p.topology≠1):cx p c=c:=if_neg h
theorem gO {p:ao} (c:ap) (h:p.topology=1):cx p c=⟨c.shape,df (c.states.take c.correct.toNat)++df (c.states.drop c.correct.toNat),c.correct,c.sent,c.faulty,c.value⟩:=if_pos h
theorem kK (p:ao) (c:ap):(cx p c).correct=c.correct:=by unfold cx;split<;>rfl
theorem mX (p:ao) (c:ap):(cx p c).shape=c.shape:=by unfold cx;split<;>rfl
theorem o8 (p:ao) (c:ap):(cx p c).sent=c.sent:=by unfold cx;split<;>rfl
theorem lK (p:ao) (c:ap):(cx p c).faulty=c.faulty:=by unfold cx;split<;>rfl
theorem r7 (p:ao) (c:ap):(cx p c).value=c.value:=by unfold cx;split<;>rfl
theorem uj (p:ao) (c:ap):(cx p c).states.Perm c.states:=by
 unfold cx
 split
 ·have:=(fC (c.states.take c.correct.toNat)).append (fC (c.states.drop c.correct.toNat))
  rwa [List.take_append_drop] at this
 ·exact List.Perm.refl _
theorem xV (p:ao) (c:ap):(cx p c).states.length=c.states.length:=(uj p c).length_eq
theorem CS (p:ao) (c:ap):bc (cx p c)=bc c:=by
 unfold bc;rw[mX,o8,lK,xV]
theorem uk {p:ao} {c:ap} (h:p.topology=1) (h1:c.correct<=c.states.length):(cx p c).states.take c.correct.toNat=df (c.states.take c.correct.toNat):=by
 rw[gO c h]
 rw[List.take_append_of_le_length (by rw[fU,List.length_take];omega),List.take_of_length_le (by rw[fU,List.length_take];omega)]
theorem CT {p:ao} {c:ap} (h:p.topology=1) (h1:c.correct<=c.states.length):(cx p c).states.drop c.correct.toNat=df (c.states.drop c.correct.toNat):=by
 rw[gO c h]
 dsimp only
 rw[List.drop_append,List.drop_of_length_le (by rw[fU,List.length_take];omega),List.nil_append,fU,List.length_take]
 rw[show c.correct.toNat-min c.correct.toNat c.states.length=0 by omega]
 rfl
theorem zP (p:ao) {c:ap} (h1:c.correct<=c.states.length):((cx p c).states.take c.correct.toNat).Perm (c.states.take c.correct.toNat):=by
 by_cases h:p.topology=1
 ·rw[uk h h1];exact fC _
 ·rw[kJ c h]
theorem CU (p:ao) {c:ap} (h1:c.correct<=c.states.length):cx p (cx p c)=cx p c:=by
 by_cases h:p.topology=1
 ·have e1:=uk h h1
  have e2:=CT h h1
  have e:=gO (cx p c) h
  rw[kK,mX,o8,lK,r7,e1,e2,ui,ui] at e
  rw[e,gO c h]
 ·rw[kJ _ h]
theorem HQ {l:List Int} {n:Int}:kX l n↔∀x∈l,0<=x/\x<n:=by
 constructor
 ·intro h x hx
  obtain⟨i,hi,rfl⟩:=List.getElem_of_mem hx
  have:=h i hi
  rw[gD,gL hi] at this
  exact this
 ·intro h j hj
  rw[gD,gL hj]
  exact h _ (List.getElem_mem hj)
theorem Fs (p:ao) (S:List Int) {c:ap} (h1:c.correct<=c.states.length):ET S ((cx p c).states.take (cx p c).correct.toNat)=ET S (c.states.take c.correct.toNat):=by
 rw[kK];exact(zP p h1).countP_eq _
theorem pF {p:ao} (h:p.topology=1) (c:ap) (l:List Int):¬Kj p c l:=by
 rintro⟨i,_,_,⟨h0,_⟩|⟨h4,_⟩⟩
 ·unfold p7 at h0
  rw[if_neg (by omega),if_neg (by omega),if_neg (by omega)] at h0
  omega
 ·omega
theorem xW (p:ao) (q:bn) {c:ap} (h1:c.correct<=c.states.length):s9 p q (cx p c)↔s9 p q c:=by
 by_cases h:p.topology=1
 ·unfold s9 Ms
  have e:∀S,ET S ((cx p c).states.take (cx p c).correct.toNat)=ET S (c.states.take c.correct.toNat):=fun S=>Fs p S h1
  simp only[e]
  constructor
  ·rintro⟨a,b|b⟩
   ·exact⟨a, .inl b⟩
   ·exact absurd b (pF h _ _)
  ·rintro⟨a,b|b⟩
   ·exact⟨a, .inl b⟩
   ·exact absurd b (pF h _ _)
 ·rw[kJ c h]
set_option maxHeartbeats 16000000
theorem zQ (p:ao) (c:ap) (hw:bc c=false) (hpl:I7 p c):ae Tryz.prog 154 [.agg (bf p), .agg (bg c)] (fun u=>u= .agg (bg (cx p c))):=by
 have hc:=aL hw
 obtain⟨_,h0,h1⟩:=hpl
 by_cases ht:p.topology=1
 ·have hst:df (c.states.take c.correct.toNat)++df (c.states.drop c.correct.toNat)=ib (ib c.states (Int.toNat 0) (c.correct-0).toNat) c.correct.toNat ((c.states.length:Int)-c.correct).toNat:=by
   rw[Int.sub_zero,show Int.toNat 0=0 from rfl,show((c.states.length:Int)-c.correct).toNat=c.states.length-c.correct.toNat by omega]
   exact CQ (by omega)
  have e:cx p c=⟨c.shape,ib (ib c.states (Int.toNat 0) (c.correct-0).toNat) c.correct.toNat ((c.states.length:Int)-c.correct).toNat,c.correct,c.sent,c.faulty,c.value⟩:=by rw[gO c ht,hst]
  rw[e]
  clear e hst
  refine ae.intro ab ac Tryz.func154 rfl (by decide) ?_;(conv=>whnf)
  refine am rfl ?_
  conv=>whnf
  refine am rfl ?_
  conv=>whnf
  refine an.news 400 (mU 5 9 13 17) (fT c) (fS c) (iQ c hw) (aa) rfl gn ?_
  conv=>whnf
  refine dH ht ?_
  conv=>whnf
  refine JL ?_
  refine nI ?_
  conv=>whnf
  refine an.sort Je Jf Jg rfl (by omega) (by omega) ?_
  conv=>whnf
  refine nI ?_
  conv=>whnf
  refine an.sort Je Jf Jg rfl (by rw[jX (by omega)];omega) (by rw[jX (by omega)];omega) ?_
  conv=>whnf
  exact⟨rfl,rfl⟩
 ·rw[kJ c ht]
  refine ae.intro ab ac Tryz.func154 rfl (by decide) ?_;(conv=>whnf)
  refine am rfl ?_
  conv=>whnf
  refine am rfl ?_
  conv=>whnf
  refine an.news 400 (mU 5 9 13 17) (fT c) (fS c) (iQ c hw) (aa) rfl gn ?_
  conv=>whnf
  refine eX ht ?_
  conv=>whnf
  exact⟨rfl,rfl⟩
end
end Go.Proofs.YtokjgegkhlkopaaGreatDoor
