import Derived.Test.YtblcpnmnibcbbaaGreatDoorMC
import Derived.Test.YtblcpnmnibcbbaaGreatDoorFpNs
import Derived.Sort.EveryDepth
import Derived.Shelf.Slices.In.SortAlone
import Derived.Shelf.Slices.In.SortNone
import Derived.Test.YtblcpnmnibcbbaaGreatDoorMN
set_option linter.unusedVariables false
set_option linter.unusedSimpArgs false
namespace Go.Proofs.YtblcpnmnibcbbaaGreatDoor
section
open Go.Sort
section
variable {S F:ae} {ρ:aw} {M:ah} {w:World} {P:Program}
theorem az.growS (h:az S F ρ M w) (os:Array Obj):az S F ρ M (Go.Sort.grow w os):=by
 have old:∀(T:ae),T.inW w->T.inW (Go.Sort.grow w os):=fun T hT b o e=>by
  have:=hT b o e
  rw[heap_grow_old w os (Array.getElem?_eq_some_iff.1 this).1];exact this
 refine⟨old _ h.sw,old _ h.fw,h.sf,h.dom,fun ℓ B hB=>?_,h.inj,h.gl⟩
 obtain⟨b,hb,hr⟩:=h.blk _ _ hB
 exact⟨b,hb,hr.keep (ae.le_refl _) (aw.le_refl _) fun hl=>⟨heap_grow_old w os (hr.lt hl),rfl⟩⟩
theorem bX.grow {w w':World} (h:bX w w') (os:Array Obj):bX w (Go.Sort.grow w' os):=
 ⟨h.os,h.output,h.tape,h.dr,by rw[size_grow];have:=h.size;omega,fun a ha=>(frozen?_grow w' os a (Nat.lt_of_lt_of_le ha h.size)).trans (h.fz a ha)⟩
theorem ah.set_self {M:ah} {ℓ:Nat} {B:bj} (h:M ℓ=some B):M.set ℓ B=M:=by
 funext x
 by_cases e:x=ℓ
 ·subst e;rw[ah.set_eq,h]
 ·rw[ah.set_ne _ _ e]
theorem ar.sort {f:FuncId} (hP:kc P f)
  (hS:∀(blk off cap:Nat) (zs:List Int) (w:World),Holds (Value.int .i64) w blk off zs.toArray->blk<w.heap.size->zs.length<4611686018427387904->
   Calls P f #[.slice (some ⟨blk,off,none⟩) zs.length cap] w fun e w'=>e= .returned (.tuple #[])/\∃n os,w'=Go.Sort.grow (putRow (Value.int .i64) (Go.Sort.ahead w n) blk off (zs.mergeSort fun x y=>decide (x<=y)).toArray) os)
  (h0:∀(p:Option Addr) (cap:Nat) (w:World),Calls P f #[.slice p 0 cap] w fun e w'=>e= .returned (.tuple #[])/\w'=w)
  {ℓ lo n:Nat} {t:TypeId} {l:List Int} (hl:M ℓ=some (.row t 0 aD l)) (hn:lo+n<=l.length) (hbig:l.length<4611686018427387904) {K:AV->ah->Prop}
  (hK:K (.tup []) (M.set ℓ (.row t 0 aD (gm l lo n)))):ar P f [.part ℓ lo n 1] M K:=by
 rw[bP]
 refine⟨hP,fun S F ρ vs w hM hv=>?_⟩
 obtain⟨v,vs',rfl,hv1,hv2⟩:=hv.cons_inv
 have:=hv2.nil_inv
 subst this
 obtain⟨b,a,c,hb,hs,hlen,hpos,_,rfl⟩:=hv1.part_inv
 by_cases hz:n=0
 ·subst hz
  refine(h0 a c w).mono ?_
  rintro e w' ⟨rfl,rfl⟩
  have e1:gm l lo 0=l:=by
   have:cT []=[]:=List.eq_nil_of_length_eq_zero (fy [])
   simp[gm,this]
  rw[e1,ah.set_self hl] at hK
  exact⟨_,_,M,S,ρ,rfl,hK,ae.le_refl _,aw.le_refl _,hM,RV.tup_mk (vs:=[]) (ba.nil _ _),bX.refl _⟩
 obtain⟨hnil,rfl⟩:=hpos (by omega)
 obtain⟨b',hb',hblen,hszs,hcase⟩:=hM.blk _ _ hl
 rw[hb] at hb';cases hb'
 rcases hcase with ⟨h,_⟩|⟨_,hcap,cs,hheap,hcs,hcell,hSb,hFb⟩
 ·rw[hnil] at h;cases h
 rw[hs] at hcell hcs
 have hzlen:((l.drop lo).take n).length=n:=by rw[List.length_take,List.length_drop];omega
 have hat:∀i x,l[i]? =some x->cs[i]? =some (Value.int .i64 x):=fun i x hx=>by
  obtain⟨v,h1,h2⟩:=hcell i x 0 (.int .i64 x) hx rfl
  cases h2
  simpa using h1
 have hat2:∀j,j<n->cs[lo+j]? =some (Value.int .i64 (((l.drop lo).take n).toArray[j]!)):=fun j hj=>by
  apply hat
  have e1:((l.drop lo).take n)[j]? =l[lo+j]?:=by rw[List.getElem?_take,if_pos hj,List.getElem?_drop]
  have hj':j<((l.drop lo).take n).length:=by omega
  rw[<-e1,getElem!_pos _ j (by simpa using hj')]
  simp only[List.getElem_toArray]
  exact gL hj'
 have hlt:=cj hheap
 have hH:Holds (Value.int .i64) w b.blk lo ((l.drop lo).take n).toArray:=fun j hj=>by
  have hj:j<n:=by simpa[hzlen] using hj
  refine⟨?_,?_⟩
  ·simp only[World.cell?,hheap]
   exact hat2 j hj
  ·simp[World.frozen?,hheap]
 have hcall:=hS b.blk lo c ((l.drop lo).take n) w hH hlt (by omega)
 rw[hzlen] at hcall
 rw[hs,Nat.mul_one]
 refine hcall.mono ?_
 rintro e w' ⟨rfl,q,os,rfl⟩
 let ys:=cT ((l.drop lo).take n)
 have hyl:ys.length=n:=by rw[fy,hzlen]
 let w1:=putRow (Value.int .i64) (Go.Sort.ahead w q) b.blk lo ys.toArray
 have hh1:∀k,k≠b.blk->w1.heap[k]? =w.heap[k]?:=fun k hk=>by
  show(w.heap.modify b.blk _)[k]? =_
  rw[Array.getElem?_modify,if_neg (fun e=>hk e.symm)]
 have hh2:w1.heap[b.blk]? =some (.cells (putCells (Value.int .i64) lo ys.toArray cs) t (0,0)):=by
  show(w.heap.modify b.blk _)[b.blk]? =_
  rw[Array.getElem?_modify,if_pos rfl,hheap];rfl
 have hM1:az S F ρ (M.set ℓ (.row t 0 aD (gm l lo n))) w1:=by
  refine hM.upd hl hb (fun k hk=>hh1 k (hk.elim id fun h=>absurd hnil h)) (fun _=>hnil) ?_
  refine⟨by rw[i8 hn];exact hblen,fun x _=>⟨by rw[hs];rfl,rfl⟩, .inr ⟨hnil,by rw[i8 hn];exact hcap,_,hh2,by rw[hs,<-hcs];simp[putCells],fun i x j u hx hu=>?_,hSb,hFb⟩⟩
  have hj:j=0:=by
   cases j with
   |zero=>rfl
   |succ j=>simp[aD] at hu
  subst hj
  cases hu
  rw[hs,Nat.mul_one,Nat.add_zero]
  simp only[putCells,Array.getElem?_mapIdx]
  have hil:i<l.length:=by
   have:=(List.getElem?_eq_some_iff.1 hx).1
   rwa [i8 hn] at this
  have hc1:=hat i l[i] (gL hil)
  rw[hc1,Option.map_some]
  refine⟨_,rfl,?_⟩
  have htl:(l.take lo).length=lo:=by rw[List.length_take];omega
  unfold gm at hx
  by_cases c1:i<lo
  ·rw[List.getElem?_append_left (by omega),List.getElem?_take,if_pos c1,gL hil] at hx
   cases hx
   rw[if_neg (by omega)]
   exact .int _ _
  ·rw[List.getElem?_append_right (by omega),htl] at hx
   by_cases c2:i<lo+n
   ·have hi2:i-lo<ys.length:=by omega
    rw[List.getElem?_append_left hi2,gL hi2] at hx
    cases hx
    rw[if_pos ⟨by omega,by simp;omega⟩,getElem!_pos _ _ (by simpa using hi2)]
    simp only[List.getElem_toArray]
    exact .int _ _
   ·rw[List.getElem?_append_right (by show ys.length<=_;omega),List.getElem?_drop] at hx
    have e2:lo+n+(i-lo-(cT ((l.drop lo).take n)).length)=i:=by
     have:(cT ((l.drop lo).take n)).length=n:=hyl
     omega
    rw[e2,gL hil] at hx
    cases hx
    rw[if_neg (by simp;omega)]
    exact .int _ _
 have hW1:bX w w1:=⟨rfl,rfl,rfl,Nat.le_add_right _ _,by show w.heap.size<=(w.heap.modify _ _).size;simp,fun x hx=>by
  show(putRow (Value.int .i64) (Go.Sort.ahead w q) b.blk lo ys.toArray).frozen? x=_
  rw[frozen?_putRow];rfl⟩
 exact⟨_,_,_,S,ρ,rfl,hK,ae.le_refl _,aw.le_refl _,hM1.growS os,RV.tup_mk (vs:=[]) (ba.nil _ _),hW1.grow os⟩
end
theorem Fq:kc Tryz.prog 192:=⟨_,Tryz.func192,rfl,rfl⟩
theorem Fr (blk off cap:Nat) (zs:List Int) (w:World) (hH:Holds (Value.int .i64) w blk off zs.toArray) (hb:blk<w.heap.size) (hs:zs.length<4611686018427387904):
  Calls Tryz.prog 192 #[.slice (some ⟨blk,off,none⟩) zs.length cap] w fun e w'=>e= .returned (.tuple #[])/\∃n os,w'=Go.Sort.grow (putRow (Value.int .i64) (Go.Sort.ahead w n) blk off (zs.mergeSort fun x y=>decide (x<=y)).toArray) os:=
 calls_of_every_depth fun D=>AnyS.slices_Sort_int_alone Tryz.laysSort D blk off cap zs w hH hb hs
theorem Fs (p:Option Addr) (cap:Nat) (w:World):Calls Tryz.prog 192 #[.slice p 0 cap] w fun e w'=>e= .returned (.tuple #[])/\w'=w:=
 calls_of_every_depth fun D=>AnyS.slices_Sort_int_none_alone Tryz.laysSort D p cap w
end
section
set_option maxRecDepth 100000
theorem zI {l:List Int} {k:Nat} (h:k<=l.length):cT (l.take k)++cT (l.drop k)=gm (gm l 0 k) k (l.length-k):=by
 have hn:(cT (l.take k)).length=k:=by rw[fy,List.length_take];omega
 have e1:gm l 0 k=cT (l.take k)++l.drop k:=by simp[gm]
 have hd:(cT (l.take k)++l.drop k).drop k=l.drop k:=by
  rw[List.drop_append,hn,Nat.sub_self,List.drop_of_length_le (by omega)];rfl
 have ht:(cT (l.take k)++l.drop k).take k=cT (l.take k):=by
  rw[List.take_append_of_le_length (by omega)];exact List.take_of_length_le (by omega)
 have hx:(l.drop k).take (l.length-k)=l.drop k:=List.take_of_length_le (by rw[List.length_drop];omega)
 have hy:(cT (l.take k)++l.drop k).drop (k+(l.length-k))=[]:=List.drop_of_length_le (by rw[List.length_append,hn,List.length_drop];omega)
 rw[e1,gm,ht,hd,hx,hy,List.append_nil]
def bU (p:aq) (c:ap):ap:=if p.topology=1 then⟨c.shape,cT (c.states.take c.correct.toNat)++cT (c.states.drop c.correct.toNat),c.correct,c.sent,c.faulty,c.value⟩ else c
theorem jG {p:aq} (c:ap) (h:p.topology≠1):bU p c=c:=if_neg h
theorem f6 {p:aq} (c:ap) (h:p.topology=1):bU p c=⟨c.shape,cT (c.states.take c.correct.toNat)++cT (c.states.drop c.correct.toNat),c.correct,c.sent,c.faulty,c.value⟩:=if_pos h
theorem jH (p:aq) (c:ap):(bU p c).correct=c.correct:=by unfold bU;split<;>rfl
theorem lH (p:aq) (c:ap):(bU p c).shape=c.shape:=by unfold bU;split<;>rfl
theorem nG (p:aq) (c:ap):(bU p c).sent=c.sent:=by unfold bU;split<;>rfl
theorem kG (p:aq) (c:ap):(bU p c).faulty=c.faulty:=by unfold bU;split<;>rfl
theorem qn (p:aq) (c:ap):(bU p c).value=c.value:=by unfold bU;split<;>rfl
theorem r4 (p:aq) (c:ap):(bU p c).states.Perm c.states:=by
 unfold bU
 split
 ·have:=(fb (c.states.take c.correct.toNat)).append (fb (c.states.drop c.correct.toNat))
  rwa [List.take_append_drop] at this
 ·exact List.Perm.refl _
theorem vr (p:aq) (c:ap):(bU p c).states.length=c.states.length:=(r4 p c).length_eq
theorem zJ (p:aq) (c:ap):aX (bU p c)=aX c:=by
 unfold aX;rw[lH,nG,kG,vr]
theorem r5 {p:aq} {c:ap} (h:p.topology=1) (h1:c.correct<=c.states.length):(bU p c).states.take c.correct.toNat=cT (c.states.take c.correct.toNat):=by
 rw[f6 c h]
 rw[List.take_append_of_le_length (by rw[fy,List.length_take];omega),List.take_of_length_le (by rw[fy,List.length_take];omega)]
theorem zK {p:aq} {c:ap} (h:p.topology=1) (h1:c.correct<=c.states.length):(bU p c).states.drop c.correct.toNat=cT (c.states.drop c.correct.toNat):=by
 rw[f6 c h]
 dsimp only
 rw[List.drop_append,List.drop_of_length_le (by rw[fy,List.length_take];omega),List.nil_append,fy,List.length_take]
 rw[show c.correct.toNat-min c.correct.toNat c.states.length=0 by omega]
 rfl
theorem wX (p:aq) {c:ap} (h1:c.correct<=c.states.length):((bU p c).states.take c.correct.toNat).Perm (c.states.take c.correct.toNat):=by
 by_cases h:p.topology=1
 ·rw[r5 h h1];exact fb _
 ·rw[jG c h]
theorem zL (p:aq) {c:ap} (h1:c.correct<=c.states.length):bU p (bU p c)=bU p c:=by
 by_cases h:p.topology=1
 ·have e1:=r5 h h1
  have e2:=zK h h1
  have e:=f6 (bU p c) h
  rw[jH,lH,nG,kG,qn,e1,e2,r3,r3] at e
  rw[e,f6 c h]
 ·rw[jG _ h]
theorem Ev {l:List Int} {n:Int}:jT l n↔∀x∈l,0<=x/\x<n:=by
 constructor
 ·intro h x hx
  obtain⟨i,hi,rfl⟩:=List.getElem_of_mem hx
  have:=h i hi
  rw[gD,gL hi] at this
  exact this
 ·intro h j hj
  rw[gD,gL hj]
  exact h _ (List.getElem_mem hj)
theorem Cm (p:aq) (S:List Int) {c:ap} (h1:c.correct<=c.states.length):BM S ((bU p c).states.take (bU p c).correct.toNat)=BM S (c.states.take c.correct.toNat):=by
 rw[jH];exact(wX p h1).countP_eq _
theorem n7 {p:aq} (h:p.topology=1) (c:ap) (l:List Int):¬F5 p c l:=by
 rintro⟨i,_,_,⟨h0,_⟩|⟨h4,_⟩⟩
 ·unfold oz at h0
  rw[if_neg (by omega),if_neg (by omega),if_neg (by omega)] at h0
  omega
 ·omega
theorem vt (p:aq) (q:bO) {c:ap} (h1:c.correct<=c.states.length):qQ p q (bU p c)↔qQ p q c:=by
 by_cases h:p.topology=1
 ·unfold qQ HK
  have e:∀S,BM S ((bU p c).states.take (bU p c).correct.toNat)=BM S (c.states.take c.correct.toNat):=fun S=>Cm p S h1
  simp only[e]
  constructor
  ·rintro⟨a,b|b⟩
   ·exact⟨a, .inl b⟩
   ·exact absurd b (n7 h _ _)
  ·rintro⟨a,b|b⟩
   ·exact⟨a, .inl b⟩
   ·exact absurd b (n7 h _ _)
 ·rw[jG c h]
set_option maxHeartbeats 16000000
theorem wY (p:aq) (c:ap) (hw:aX c=false) (hpl:Fh p c):aa Tryz.prog 173 [.agg (bc p), .agg (aY c)] (fun u=>u= .agg (aY (bU p c))):=by
 have hc:=aG hw
 obtain⟨_,h0,h1⟩:=hpl
 by_cases ht:p.topology=1
 ·have hst:cT (c.states.take c.correct.toNat)++cT (c.states.drop c.correct.toNat)=gm (gm c.states (Int.toNat 0) (c.correct-0).toNat) c.correct.toNat ((c.states.length:Int)-c.correct).toNat:=by
   rw[Int.sub_zero,show Int.toNat 0=0 from rfl,show((c.states.length:Int)-c.correct).toNat=c.states.length-c.correct.toNat by omega]
   exact zI (by omega)
  have e:bU p c=⟨c.shape,gm (gm c.states (Int.toNat 0) (c.correct-0).toNat) c.correct.toNat ((c.states.length:Int)-c.correct).toNat,c.correct,c.sent,c.faulty,c.value⟩:=by rw[f6 c ht,hst]
  rw[e]
  clear e hst
  refine aa.intro ab ac Tryz.func173 rfl (by decide) ?_;(conv=>whnf)
  refine am rfl ?_
  conv=>whnf
  refine am rfl ?_
  conv=>whnf
  refine ar.news 400 (kD 5 9 13 17) (eW c) (eH c) (gW c hw) (ai) rfl fN ?_
  conv=>whnf
  refine fc ht ?_
  conv=>whnf
  refine FH ?_
  refine nI ?_
  conv=>whnf
  refine ar.sort Fq Fr Fs rfl (by omega) (by omega) ?_
  conv=>whnf
  refine nI ?_
  conv=>whnf
  refine ar.sort Fq Fr Fs rfl (by rw[i8 (by omega)];omega) (by rw[i8 (by omega)];omega) ?_
  conv=>whnf
  exact⟨rfl,rfl⟩
 ·rw[jG c ht]
  refine aa.intro ab ac Tryz.func173 rfl (by decide) ?_;(conv=>whnf)
  refine am rfl ?_
  conv=>whnf
  refine am rfl ?_
  conv=>whnf
  refine ar.news 400 (kD 5 9 13 17) (eW c) (eH c) (gW c hw) (ai) rfl fN ?_
  conv=>whnf
  refine fE ht ?_
  conv=>whnf
  exact⟨rfl,rfl⟩
end
end Go.Proofs.YtblcpnmnibcbbaaGreatDoor
