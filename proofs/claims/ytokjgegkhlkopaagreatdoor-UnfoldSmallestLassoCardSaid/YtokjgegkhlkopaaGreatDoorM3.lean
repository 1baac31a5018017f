import Derived.Test.YtokjgegkhlkopaaGreatDoorFnT
set_option linter.unusedVariables false
set_option linter.unusedSimpArgs false
namespace Go.Proofs.YtokjgegkhlkopaaGreatDoor
set_option maxRecDepth 100000
set_option maxHeartbeats 4000000
def Mk (l:List ByteArray):aX:=.row 9 t0 cR l
def I2 (l:List ByteArray):List AV:=[.sl t0 cR l]
theorem Ml (n:Nat) (h0:0<n) (hn:n<=1000):an Tryz.prog 172 [.nilsl, .int .i64 (n:Int)] (ai.ofL []) (fun u M=>∃ℓ0,u= .row ℓ0 0 1/\M ℓ0=some (Mk [])):=by
 refine an.intro ab ac [] Tryz.func172 rfl (by decide) ?_
 conv=>whnf
 repeat' ((first|refine nI ?_|refine aI ?_|refine tI ?_|refine fI ?_|fail);conv=>whnf)
 refine ww t0 cR t0 rfl (by dsimp only;omega) ?_
 conv=>whnf
 repeat' ((first|refine nI ?_|refine aI ?_|refine tI ?_|refine fI ?_|refine DU ?_|fail);conv=>whnf)
 exact⟨25,rfl,rfl⟩
theorem Hu (ls:List (List ByteArray)) (hl:ls.length<=10) (h0:0<ls.flatten.length) (hn:ls.flatten.length<=1000):ae Tryz.prog 138 [.sl [] I2 ls] (fun u=>u= .sl t0 cR ls.flatten):=by
 have hpart:∀i,(ls.take i).flatten.length<=1000:=fun i=>by
  have:ls.flatten=(ls.take i).flatten++(ls.drop i).flatten:=by rw[<-List.flatten_append,List.take_append_drop]
  rw[this] at hn
  simp only[List.length_append] at hn
  omega
 have hsucc:∀i,i<ls.length->(ls.take (i+1)).flatten=(ls.take i).flatten++ls.getD i []:=fun i hi=>by
  rw[eG [] hi,List.flatten_append];simp
 refine ae.intro ab ac Tryz.func138 rfl (by decide) ?_;(conv=>whnf)
 refine aE.loopF ab ac (fun i:Nat=>i<=ls.length) (fun i=>[(11, .int .i64 (i:Int)),(3, .int .i64 ((ls.take i).flatten.length:Int))]) (fun _=>[]) (fun i=>ls.length-i) 0 (by omega) ?_;conv=>whnf
 refine⟨sI,?_⟩
 intro i hi
 conv=>whnf
 refine ah ?_ ?_<;>(intro h1;conv=>whnf)
 ·refine nI ?_
  rw[tN]
  have hs:=hsucc i (by omega)
  have h2:=hpart (i+1)
  rw[hs,List.length_append] at h2
  conv=>whnf
  repeat' ((first|refine nI ?_|refine aI ?_|refine tI ?_|refine fI ?_|fail);conv=>whnf)
  refine⟨i+1,?_,by omega,by dsimp only;omega⟩
  dsimp only
  rw[hs,List.length_append]
  exact sI
 ·obtain rfl:i=ls.length:=by omega
  rw[List.take_length]
  refine an.fresh 24 (Ml _ h0 hn) rfl (aa) ?_
  conv=>whnf
  refine aE.loopF ab ac (fun i:Nat=>i<=ls.length) (fun i=>[(27, .int .i64 (i:Int)),(6, .row 1000 (ls.take i).flatten.length 1),(24, .top)]) (fun i=>[(1000,Mk (ls.take i).flatten)]) (fun i=>ls.length-i) 0 (by omega) ?_;conv=>whnf
  refine⟨aM.by_ [(1000, .old 24)] _ 400 rfl (aa) (aa),?_⟩
  intro i hi
  conv=>whnf
  refine ah ?_ ?_<;>(intro h1;conv=>whnf)
  ·refine nI ?_
   rw[tN]
   have hs:=hsucc i (by omega)
   have h2:=hpart (i+1)
   rw[hs,List.length_append] at h2
   conv=>whnf
   refine cB _ rfl (by dsimp only;omega) ?_
   conv=>whnf
   repeat' ((first|refine nI ?_|refine aI ?_|refine tI ?_|refine fI ?_|fail);conv=>whnf)
   refine⟨i+1,?_,by omega,by dsimp only;omega⟩
   dsimp only
   rw[hs,List.length_append]
   exact aM.by_ [(1000, .old 33)] _ 400 rfl (aa) (aa)
  ·obtain rfl:i=ls.length:=by omega
   rw[List.take_length]
   exact⟨rfl,rfl⟩
def s5 (l:List ByteArray):Prop:=∀i,i<l.length->de (l.getD i t0)/\l.getD i t0∉l.take i
instance (l:List ByteArray):Decidable (s5 l):=inferInstanceAs (Decidable (∀i,i<l.length->_))
def fE (p:ao):List ByteArray:=p.states++p.messages++p.values
theorem t9 {p:ao} (hp:Ex p):∀i,((fE p).getD i t0).size<=140737488355328:=by
 intro i
 by_cases hi:i<(fE p).length
 ·have hm:=rr (l:=fE p) t0 hi
  unfold fE at hm
  simp only[List.mem_append] at hm
  rcases hm with (h|h)|h
  ·exact hp.ns.1 _ h
  ·exact hp.ns.2.1 _ h
  ·exact hp.ns.2.2 _ h
 ·rw[gD,List.getElem?_eq_none (by omega)];decide
theorem J6 (p:ao) (hp:Ex p) (hle:p.states.length<=60/\p.messages.length<=60/\p.values.length<=60) (h0:0<p.states.length):ae Tryz.prog 114 [.agg (bf p)] (fun u=>u= .int .i64 (if s5 (fE p) then 0 else 2)):=by
 have hsz:=t9 hp
 have hlen:(fE p).length=p.states.length+p.messages.length+p.values.length:=by simp[fE];omega
 have hfl:[p.states,p.messages,p.values].flatten=fE p:=by simp[fE]
 have hc:=Hu [p.states,p.messages,p.values] (by simp) (by rw[hfl];omega) (by rw[hfl];omega)
 rw[hfl] at hc
 refine ae.intro ab ac Tryz.func114 rfl (by decide) ?_;(conv=>whnf)
 refine am rfl ?_
 conv=>whnf
 refine cA [] I2 [p.states,p.messages,p.values] rfl ?_
 conv=>whnf
 refine an.hand 12 rfl ?_
 (refine oP (hc) ?_;conv=>whnf)
 refine aE.loopF ab ac (fun i:Nat=>i<=(fE p).length/\∀j,j<i->de ((fE p).getD j t0)/\(fE p).getD j t0∉(fE p).take j) (fun i=>[(16, .int .i64 (i:Int)),(12, .top)]) (fun _=>[]) (fun i=>(fE p).length-i) 0 ⟨by omega,fun j hj=>by omega⟩ ?_;conv=>whnf
 refine⟨sI,?_⟩
 rintro i ⟨hi,ha⟩
 conv=>whnf
 refine ah ?_ ?_<;>(intro h1;conv=>whnf)
 ·refine nI ?_
  rw[tN]
  conv=>whnf
  refine dC (fu _ (by have:=hsz i;omega)) (fun _=>?_) (fun _=>?_)<;>(conv=>whnf)
  ·rename_i hv
   refine nI ?_
   rw[tN]
   conv=>whnf
   refine dC (ro _ _ (by simp;omega)) (fun _=>?_) (fun _=>?_)<;>(conv=>whnf)
   ·rename_i hm
    exact⟨aj (by rw[if_neg (fun h:s5 (fE p)=>(h i (by omega)).2 hm)]),rfl⟩
   ·rename_i hm
    repeat' ((first|refine nI ?_|refine aI ?_|refine tI ?_|refine fI ?_|fail);conv=>whnf)
    refine⟨i+1,sI,⟨by omega,fun j hj=>?_⟩,by dsimp only;omega⟩
    by_cases e:j=i
    ·subst e;exact⟨hv,hm⟩
    ·exact ha j (by omega)
  ·rename_i hv
   exact⟨aj (by rw[if_neg (fun h:s5 (fE p)=>hv (h i (by omega)).1)]),rfl⟩
 ·exact⟨aj (by rw[if_pos (show s5 (fE p) from fun j hj=>ha j (by omega))]),rfl⟩
set_option maxHeartbeats 8000000
def jB (p:ao):Int:=cF ((List.range p.rules.length).map fun i=>di p i (p.rules.getD i au))
def s6 (p:ao):Prop:=∀j,j<p.resilience.length->nQ (p.resilience.getD j i0)
instance (p:ao):Decidable (s6 p):=inferInstanceAs (Decidable (∀j,j<p.resilience.length->_))
def xq (p:ao):Int:=cF [c7 p.initial p.states.length,(if p.initial.length=0 then 1 else 0),c7 p.leader p.states.length,jB p,(if 3<(nU p.rules).length then 4 else 0)]
def bD (p:ao):Int:=
 if¬de p.name then 2 else if p.topology<1\/4<p.topology\/p.fault<0\/3<p.fault then 1 else if p.states.length=0 then 1
 else if 6<p.states.length\/3<p.messages.length\/3<p.values.length\/4<p.resilience.length\/8<p.rules.length then 4
 else if¬s5 (fE p) then 2
 else if(p.topology≠1/\(0<p.messages.length\/0<p.values.length\/0<p.resilience.length\/p.fault≠0))\/(p.topology=1/\0<p.leader.length) then 1
 else if¬s6 p then 4 else xq p
theorem rC {n k:Nat} (h:k<n):(List.range n).getD k 0=k:=by
 rw[gD,List.getElem?_range h];rfl
theorem nW:∀{l:List Int},cF l=0->∀x∈l,x=0
 |[],_,x,hx=>by cases hx
 |a::l,h,x,hx=>by
  by_cases ha:a=0
  ·rw[bL ha] at h
   rcases List.mem_cons.1 hx with rfl|hx
   ·exact ha
   ·exact nW h x hx
  ·rw[cG ha] at h;omega
theorem zC {p:ao} {i:Nat} {r:dh} (h:di p i r=0):de r.name/\cj r.kind p.topology/\¬kz r p.topology/\(0<=r.src/\r.src<p.states.length)/\(0<=r.dst/\r.dst<p.states.length)/\d8 p r=0:=by
 unfold di at h
 by_cases h1:¬de r.name\/gU p.rules i r
 ·rw[if_pos h1] at h;omega
 rw[if_neg h1] at h
 by_cases h2:¬cj r.kind p.topology\/kz r p.topology
 ·rw[if_pos h2] at h;omega
 rw[if_neg h2] at h
 have hz:=nW h
 have b1:=hz (dj r.src p.states.length) (by simp)
 have b2:=hz (dj r.dst p.states.length) (by simp)
 unfold dj at b1 b2
 refine⟨Classical.not_not.1 fun e=>h1 (.inl e),Classical.not_not.1 fun e=>h2 (.inl e),fun e=>h2 (.inr e),?_,?_,hz _ (by simp)⟩
 ·split at b1<;>omega
 ·split at b2<;>omega
theorem EJ {m:Int} {l:List nN} (h:bZ m l=0):l.length<=2:=by
 unfold bZ at h
 split at h
 ·omega
 ·split at h<;>omega
theorem xr {p:ao} {i:Nat} {r:dh} (h:di p i r=0):r.guards.length<=2:=by
 obtain⟨_,_,h3,_,_,h6⟩:=zC h
 by_cases k:r.kind=1
 ·unfold d8 at h6
  rw[if_pos k] at h6
  exact EJ (nW h6 (bZ p.messages.length r.guards) (by simp))
 ·unfold kz at h3;omega
theorem I3 {p:ao} (h:jB p=0) (hl:p.rules.length<=8):Mh p:=by
 refine⟨by omega,fun j hj=>?_⟩
 have:=xr (nW h _ (List.mem_map.2 ⟨j,List.mem_range.2 hj,rfl⟩))
 omega
theorem jU (p:ao) (hp:Ex p):ae Tryz.prog 72 [.agg (bf p)] (fun u=>u= .int .i64 (bD p)):=by
 have hle:=oX hp
 have he:=bD.eq_1 p
 refine ae.intro ab ac Tryz.func72 rfl (by decide) ?_;(conv=>whnf)
 refine am rfl ?_
 conv=>whnf
 refine ah ?_ ?_<;>(intro ht;conv=>whnf)
 all_goals
  refine dC (fu p.name (by omega)) (fun _=>?_) (fun _=>?_)<;>(conv=>whnf)
  case refine_2=>rename_i hv;rw[if_pos hv] at he;exact⟨aj he.symm,rfl⟩
  rename_i hv
  rw[if_neg (fun h=>h hv)] at he
  by_cases hA:p.topology<1\/4<p.topology\/p.fault<0\/3<p.fault
  ·rw[if_pos hA] at he
   repeat' ((first|refine nI ?_|refine aI ?_|refine uI ?_|refine vI ?_|refine dI ?_|refine dR ?_|refine dP ?_|refine am rfl ?_|refine pI _ rfl ?_|refine ak _ rfl ?_|refine tI ?_|refine fI ?_|refine ah (fun _=>?_) (fun _=>?_))<;>conv=>whnf)
   all_goals exact⟨aj he.symm,rfl⟩
  rw[if_neg hA] at he
  by_cases h0:p.states.length=0
  ·rw[if_pos h0] at he
   repeat' ((first|refine nI ?_|refine aI ?_|refine tI ?_|refine fI ?_|fail);conv=>whnf)
   exact⟨aj he.symm,rfl⟩
  rw[if_neg h0] at he
  by_cases hB:6<p.states.length\/3<p.messages.length\/3<p.values.length\/4<p.resilience.length\/8<p.rules.length
  ·rw[if_pos hB] at he
   repeat' ((first|refine nI ?_|refine aI ?_|refine uI ?_|refine vI ?_|refine dI ?_|refine dR ?_|refine dP ?_|refine am rfl ?_|refine pI _ rfl ?_|refine ak _ rfl ?_|refine tI ?_|refine fI ?_|refine ah (fun _=>?_) (fun _=>?_))<;>conv=>whnf)
   all_goals exact⟨aj he.symm,rfl⟩
  rw[if_neg hB] at he
  repeat' ((first|refine nI ?_|refine aI ?_|refine tI ?_|refine fI ?_|fail);conv=>whnf)
  (refine oP (J6 p hp (by omega) (by omega)) ?_;conv=>whnf)
  by_cases hN:s5 (fE p)
  case neg=>
   rw[if_pos hN] at he
   rw[if_neg hN]
   repeat' ((first|refine nI ?_|refine aI ?_|refine tI ?_|refine fI ?_|fail);conv=>whnf)
   exact⟨aj he.symm,rfl⟩
  rw[if_neg (fun h=>h hN)] at he
  rw[if_pos hN]
  by_cases hC:(p.topology≠1/\(0<p.messages.length\/0<p.values.length\/0<p.resilience.length\/p.fault≠0))\/(p.topology=1/\0<p.leader.length)
  ·rw[if_pos hC] at he
   repeat' ((first|refine nI ?_|refine aI ?_|refine uI ?_|refine vI ?_|refine dI ?_|refine dR ?_|refine dP ?_|refine am rfl ?_|refine pI _ rfl ?_|refine ak _ rfl ?_|refine tI ?_|refine fI ?_|refine ah (fun _=>?_) (fun _=>?_))<;>conv=>whnf)
   all_goals exact⟨aj he.symm,rfl⟩
  rw[if_neg hC] at he
  repeat' ((first|refine nI ?_|refine aI ?_|refine tI ?_|refine fI ?_|fail);conv=>whnf)
  refine aE.loopF ab ac (fun k:Nat=>k<=p.resilience.length/\∀j,j<k->nQ (p.resilience.getD j i0)) (fun k=>[(113, .int .i64 (k:Int))]) (fun _=>[]) (fun k=>p.resilience.length-k) 0 ⟨by omega,fun j hj=>by omega⟩ ?_;conv=>whnf
  refine⟨sI,?_⟩
  rintro k ⟨hk,ha⟩
  conv=>whnf
  refine ah ?_ ?_<;>(intro h1;conv=>whnf)
  ·refine nI ?_
   rw[tN]
   conv=>whnf
   refine dC (nR (p.resilience.getD k i0)) (fun _=>?_) (fun _=>?_)<;>(conv=>whnf)
   ·rename_i hb
    repeat' ((first|refine nI ?_|refine aI ?_|refine tI ?_|refine fI ?_|fail);conv=>whnf)
    refine⟨k+1,sI,⟨by omega,fun j hj=>?_⟩,by dsimp only;omega⟩
    by_cases e:j=k
    ·subst e;exact hb
    ·exact ha j (by omega)
   ·rename_i hb
    rw[if_pos (fun h:s6 p=>hb (h k (by omega)))] at he
    exact⟨aj he.symm,rfl⟩
  rw[if_neg (fun h=>h (show s6 p from fun j hj=>ha j (by omega))),xq] at he
  refine dI ?_
  conv=>whnf
  (refine oC (mS p.initial _ (by omega)) ?_;conv=>whnf)
  have hf:∀x:Int,x=(if p.initial.length=0 then 1 else 0)->bD p=if cF [c7 p.initial p.states.length,x,c7 p.leader p.states.length]≠0 then cF [c7 p.initial p.states.length,x,c7 p.leader p.states.length] else cF [jB p,(if 3<(nU p.rules).length then 4 else 0)]:=by
   rintro x rfl
   rw[he,show[c7 p.initial p.states.length,(if p.initial.length=0 then(1:Int) else 0),c7 p.leader p.states.length,jB p,(if 3<(nU p.rules).length then 4 else 0)]=[c7 p.initial p.states.length,(if p.initial.length=0 then(1:Int) else 0),c7 p.leader p.states.length]++[jB p,(if 3<(nU p.rules).length then 4 else 0)] from rfl,EI]
  clear he
  by_cases hI:p.initial.length=0
  ·have hx:=hf 1 (by rw[if_pos hI])
   repeat' ((first|refine nI ?_|refine aI ?_|refine tI ?_|refine fI ?_|fail);conv=>whnf)
   (refine oC (jo 1) ?_;conv=>whnf)
   (refine oC (mS p.leader _ (by omega)) ?_;conv=>whnf)
   refine ew ?_
   conv=>whnf
   (refine oC (cV _ (by simp)) ?_;conv=>whnf)
   refine ah ?_ ?_<;>(intro h1;conv=>whnf)
   ·rw[if_pos h1] at hx;exact⟨aj hx.symm,rfl⟩
   ·exfalso
    apply h1
    simp only[cF]
    (repeat' split)<;>omega
  have hx:=hf 0 (by rw[if_neg hI])
  repeat' ((first|refine nI ?_|refine aI ?_|refine tI ?_|refine fI ?_|fail);conv=>whnf)
  (refine oC (g8 1) ?_;conv=>whnf)
  (refine oC (mS p.leader _ (by omega)) ?_;conv=>whnf)
  refine ew ?_
  conv=>whnf
  (refine oC (cV _ (by simp)) ?_;conv=>whnf)
  refine ah ?_ ?_<;>(intro h1;conv=>whnf)
  ·rw[if_pos h1] at hx;exact⟨aj hx.symm,rfl⟩
  rw[if_neg h1] at hx
  refine aE.loopF ab ac (fun k:Nat=>k<=p.rules.length/\jB p=cF (((List.range p.rules.length).drop k).map fun i=>di p i (p.rules.getD i au))) (fun k=>[(142, .int .i64 (k:Int))]) (fun _=>[]) (fun k=>p.rules.length-k) 0 ⟨by omega,rfl⟩ ?_;conv=>whnf
  refine⟨sI,?_⟩
  rintro k ⟨hk,hr⟩
  conv=>whnf
  refine ah ?_ ?_<;>(intro h2;conv=>whnf)
  ·rw[eT _ 0 (by simp;omega),rC (by omega)] at hr
   (refine oP (zB p k hp (by omega)) ?_;conv=>whnf)
   refine ah ?_ ?_<;>(intro h3;conv=>whnf)
   ·rw[if_pos h3] at hr
    rw[hr,cG h3] at hx
    exact⟨aj hx.symm,rfl⟩
   ·rw[if_neg h3] at hr
    repeat' ((first|refine nI ?_|refine aI ?_|refine tI ?_|refine fI ?_|fail);conv=>whnf)
    exact⟨k+1,sI,⟨by omega,hr⟩,by dsimp only;omega⟩
  obtain rfl:k=p.rules.length:=by omega
  rw[List.drop_of_length_le (by simp)] at hr
  rw[bL hr] at hx
  (refine oP (xn p (I3 (show jB p=0 from hr) (by omega))) ?_;conv=>whnf)
  refine ah ?_ ?_<;>(intro h3;conv=>whnf)
  ·rw[if_pos (by omega)] at hx
   (refine oP (jo 4) ?_;conv=>whnf)
   exact⟨aj hx.symm,rfl⟩
  ·rw[if_neg (by omega)] at hx
   (refine oP (g8 4) ?_;conv=>whnf)
   exact⟨aj hx.symm,rfl⟩
theorem o0 (p:ao) (hp:Ex p):ae Tryz.prog 63 [.agg (bf p)] (fun u=>u= .int .i64 (bD p)):=by
 have hle:=oX hp
 have he:=bD.eq_1 p
 have hsz:=t9 hp
 have hlen:(fE p).length=p.states.length+p.messages.length+p.values.length:=by simp[fE];omega
 refine ae.intro ab ac Tryz.func63 rfl (by decide) ?_;(conv=>whnf)
 refine am rfl ?_
 conv=>whnf
 refine dC (ky p.name (by omega)) (fun _=>?_) (fun _=>?_)<;>(conv=>whnf)
 case refine_2=>rename_i hv;rw[if_pos hv] at he;exact⟨aj he.symm,rfl⟩
 rename_i hv
 rw[if_neg (fun h=>h hv)] at he
 refine dC (bm _ _ _) (fun _=>?_) (fun _=>?_)<;>(conv=>whnf)
 case refine_2=>rename_i h;rw[if_pos (by omega)] at he;exact⟨aj he.symm,rfl⟩
 rename_i hA1
 refine dC (bm _ _ _) (fun _=>?_) (fun _=>?_)<;>(conv=>whnf)
 case refine_2=>rename_i h;rw[if_pos (by omega)] at he;exact⟨aj he.symm,rfl⟩
 rename_i hA2
 rw[if_neg (by omega)] at he
 by_cases h0:p.states.length=0
 ·rw[if_pos h0] at he
  repeat' ((first|refine nI ?_|refine aI ?_|refine tI ?_|refine fI ?_|fail);conv=>whnf)
  exact⟨aj he.symm,rfl⟩
 rw[if_neg h0] at he
 by_cases hB:6<p.states.length\/3<p.messages.length\/3<p.values.length\/4<p.resilience.length\/8<p.rules.length
 ·rw[if_pos hB] at he
  repeat' ((first|refine nI ?_|refine aI ?_|refine uI ?_|refine vI ?_|refine dI ?_|refine dR ?_|refine dP ?_|refine am rfl ?_|refine pI _ rfl ?_|refine ak _ rfl ?_|refine tI ?_|refine fI ?_|refine ah (fun _=>?_) (fun _=>?_))<;>conv=>whnf)
  all_goals exact⟨aj he.symm,rfl⟩
 rw[if_neg hB] at he
 repeat' ((first|refine nI ?_|refine aI ?_|refine tI ?_|refine fI ?_|fail);conv=>whnf)
 refine dP ?_
 conv=>whnf
 refine cA t0 cR [] rfl ?_
 conv=>whnf
 refine iH ?_
 conv=>whnf
 refine cB _ rfl (by dsimp only;simp only[List.length_nil];omega) ?_
 conv=>whnf
 refine cB _ rfl (by simp only[List.length_append,List.length_nil];omega) ?_
 conv=>whnf
 refine cB _ rfl (by simp only[List.length_append,List.length_nil];omega) ?_
 conv=>whnf
 refine aE.loopF ab ac (fun i:Nat=>i<=(fE p).length/\∀j,j<i->de ((fE p).getD j t0)/\(fE p).getD j t0∉(fE p).take j) (fun i=>[(4, .int .i64 (i:Int)),(3, .sl t0 cR (fE p)),(56, .top),(59, .top),(62, .top),(65, .top)]) (fun _=>[]) (fun i=>(fE p).length-i) 0 ⟨by omega,fun j hj=>by omega⟩ ?_;conv=>whnf
 refine⟨aM.leak 65 rfl (aM.by_ [] [] 400 rfl trivial (aa)),?_⟩
 rintro i ⟨hi,ha⟩
 conv=>whnf
 refine ah ?_ ?_<;>(intro h1;conv=>whnf)
 ·refine dI ?_
  conv=>whnf
  refine nI ?_
  rw[tN]
  conv=>whnf
  refine dD (ky _ (by have:=hsz i;omega)) (fun _=>?_) (fun _=>?_)<;>(conv=>whnf)
  ·rename_i hv
   refine nI ?_
   rw[tN]
   conv=>whnf
   refine nI ?_
   rw[tN]
   conv=>whnf
   refine dD (xi _ _ (by simp;omega)) (fun _=>?_) (fun _=>?_)<;>(conv=>whnf)
   ·rename_i hm
    rw[if_pos (fun h:s5 (fE p)=>(h i (by omega)).2 hm)] at he
    exact⟨aj he.symm,rfl⟩
   ·rename_i hm
    repeat' ((first|refine nI ?_|refine aI ?_|refine tI ?_|refine fI ?_|fail);conv=>whnf)
    refine⟨i+1,sI,⟨by omega,fun j hj=>?_⟩,by dsimp only;omega⟩
    by_cases e:j=i
    ·subst e;exact⟨hv,hm⟩
    ·exact ha j (by omega)
  ·rename_i hv
   rw[if_pos (fun h:s5 (fE p)=>hv (h i (by omega)).1)] at he
   exact⟨aj he.symm,rfl⟩
 rw[if_neg (fun h=>h (show s5 (fE p) from fun j hj=>ha j (by omega)))] at he
 by_cases hC:(p.topology≠1/\(0<p.messages.length\/0<p.values.length\/0<p.resilience.length\/p.fault≠0))\/(p.topology=1/\0<p.leader.length)
 ·rw[if_pos hC] at he
  repeat' ((first|refine nI ?_|refine aI ?_|refine uI ?_|refine vI ?_|refine dI ?_|refine dR ?_|refine dP ?_|refine am rfl ?_|refine pI _ rfl ?_|refine ak _ rfl ?_|refine tI ?_|refine fI ?_|refine ah (fun _=>?_) (fun _=>?_))<;>conv=>whnf)
  all_goals exact⟨aj he.symm,rfl⟩
 rw[if_neg hC] at he
 refine ah ?_ ?_<;>(intro ht;conv=>whnf)
 all_goals
  repeat' ((first|refine nI ?_|refine aI ?_|refine tI ?_|refine fI ?_|fail);conv=>whnf)
  refine aE.loopF ab ac (fun k:Nat=>k<=p.resilience.length/\∀j,j<k->nQ (p.resilience.getD j i0)) (fun k=>[(5, .int .i64 (k:Int))]) (fun _=>[]) (fun k=>p.resilience.length-k) 0 ⟨by omega,fun j hj=>by omega⟩ ?_;conv=>whnf
  refine⟨sI,?_⟩
  rintro k ⟨hk,ha⟩
  conv=>whnf
  refine ah ?_ ?_<;>(intro h1;conv=>whnf)
  ·refine nI ?_
   rw[tN]
   conv=>whnf
   refine dC (J5 (p.resilience.getD k i0)) (fun _=>?_) (fun _=>?_)<;>(conv=>whnf)
   ·rename_i hb
    repeat' ((first|refine nI ?_|refine aI ?_|refine tI ?_|refine fI ?_|fail);conv=>whnf)
    refine⟨k+1,sI,⟨by omega,fun j hj=>?_⟩,by dsimp only;omega⟩
    by_cases e:j=k
    ·subst e;exact hb
    ·exact ha j (by omega)
   ·rename_i hb
    rw[if_pos (fun h:s6 p=>hb (h k (by omega)))] at he
    exact⟨aj he.symm,rfl⟩
  rw[if_neg (fun h=>h (show s6 p from fun j hj=>ha j (by omega))),xq] at he
  (refine oP (rn p.initial _ (by omega) (by omega)) ?_;conv=>whnf)
  refine ah ?_ ?_<;>(intro hx;conv=>whnf)
  ·exact⟨aj (by rw[he,cG hx]),rfl⟩
  rw[bL (by omega)] at he
  refine ah ?_ ?_<;>(intro hx;conv=>whnf)
  ·exact⟨aj (by rw[he,if_pos (by omega),cG (by decide)]),rfl⟩
  rw[if_neg (by omega),bL rfl] at he
  (refine oP (rn p.leader _ (by omega) (by omega)) ?_;conv=>whnf)
  refine ah ?_ ?_<;>(intro hx;conv=>whnf)
  ·exact⟨aj (by rw[he,cG hx]),rfl⟩
  rw[bL (by omega)] at he
  refine aE.loopF ab ac (fun k:Nat=>k<=p.rules.length/\jB p=cF (((List.range p.rules.length).drop k).map fun i=>di p i (p.rules.getD i au))) (fun k=>[(8, .int .i64 (k:Int))]) (fun _=>[]) (fun k=>p.rules.length-k) 0 ⟨by omega,rfl⟩ ?_;conv=>whnf
  refine⟨sI,?_⟩
  rintro k ⟨hk,hr⟩
  conv=>whnf
  refine ah ?_ ?_<;>(intro h2;conv=>whnf)
  ·rw[eT _ 0 (by simp;omega),rC (by omega)] at hr
   (refine oP (Mj p k hp (by omega)) ?_;conv=>whnf)
   refine ah ?_ ?_<;>(intro h3;conv=>whnf)
   ·rw[if_pos h3] at hr
    rw[hr,cG h3] at he
    exact⟨aj he.symm,rfl⟩
   ·rw[if_neg h3] at hr
    repeat' ((first|refine nI ?_|refine aI ?_|refine tI ?_|refine fI ?_|fail);conv=>whnf)
    exact⟨k+1,sI,⟨by omega,hr⟩,by dsimp only;omega⟩
  obtain rfl:k=p.rules.length:=by omega
  rw[List.drop_of_length_le (by simp)] at hr
  rw[bL hr] at he
  (refine oP (Cg p (I3 (show jB p=0 from hr) (by omega))) ?_;conv=>whnf)
  refine ah ?_ ?_<;>(intro h3;conv=>whnf)
  ·rw[if_pos (by omega)] at he
   exact⟨aj he.symm,rfl⟩
  ·rw[if_neg (by omega)] at he
   exact⟨aj he.symm,rfl⟩
structure az where
 n:Int
 t:Int
 f:Int
def b7 (s:az):List AV:=[.int .i64 s.n, .int .i64 s.t, .int .i64 s.f]
def rD (l:yF) (s:az):Int:=l.c+l.n*s.n+l.t*s.t+l.f*s.f
def EK (s:az):Prop:=(0<=s.n/\s.n<=1048576)/\(0<=s.t/\s.t<=1048576)/\(0<=s.f/\s.f<=1048576)
theorem EL {a b:Int} (ha:s4 a) (hb:0<=b/\b<=1048576):-104857600<=a*b/\a*b<=104857600:=by
 unfold s4 at ha
 have h1:a*b<=100*b:=Int.mul_le_mul_of_nonneg_right ha.2 hb.1
 have h2:-100*b<=a*b:=Int.mul_le_mul_of_nonneg_right ha.1 hb.1
 omega
theorem AG {l:yF} {s:az} (hl:nQ l) (hs:EK s):(-104857600<=l.n*s.n/\l.n*s.n<=104857600)/\(-104857600<=l.t*s.t/\l.t*s.t<=104857600)/\(-104857600<=l.f*s.f/\l.f*s.f<=104857600)/\(-100<=l.c/\l.c<=100):=
 ⟨EL hl.2.1 hs.1,EL hl.2.2.1 hs.2.1,EL hl.2.2.2 hs.2.2,hl.1⟩
theorem ua (l:yF) (s:az) (hl:nQ l) (hs:EK s):ae Tryz.prog 132 [.agg (eE l), .agg (b7 s)] (fun u=>u= .tup [.int .i64 (rD l s), .int .i64 0]):=by
 obtain⟨b1,b2,b3,b4⟩:=AG hl hs
 refine ae.intro ab ac Tryz.func132 rfl (by decide) ?_;(conv=>whnf)
 refine am rfl ?_
 conv=>whnf
 refine am rfl ?_
 conv=>whnf
 refine dC (nR l) (fun _=>?_) (fun _=>?_)<;>(conv=>whnf)
 case refine_2=>rename_i h;exact absurd hl h
 refine aE.loopF ab ac (fun k:Nat=>k<=3) (fun k=>[(19, .int .i64 (k:Int))]) (fun _=>[(17, .row 3 0 aD [s.n,s.t,s.f])]) (fun k=>3-k) 0 (by omega) ?_;conv=>whnf
 refine⟨sI,?_⟩
 intro k hk
 conv=>whnf
 refine ah ?_ ?_<;>(intro h1;conv=>whnf)
 ·refine nI ?_
  rw[tN]
  have hx:0<=[s.n,s.t,s.f].getD k 0/\[s.n,s.t,s.f].getD k 0<=1048576:=by
   obtain⟨c1,c2,c3⟩:=hs
   have:k=0\/k=1\/k=2:=by omega
   rcases this with rfl|rfl|rfl
   ·exact c1
   ·exact c2
   ·exact c3
  conv=>whnf
  repeat' ((first|refine nI ?_|refine aI ?_|refine tI ?_|refine fI ?_|fail);conv=>whnf)
  exact⟨k+1,sI,by omega,by dsimp only;omega⟩
 ·repeat' ((first|refine nI ?_|refine aI ?_|refine tI ?_|refine fI ?_|fail);conv=>whnf)
  exact⟨rfl,rfl⟩
theorem EM (l:yF) (s:az) (hl:nQ l) (hs:EK s):ae Tryz.prog 128 [.agg (eE l), .agg (b7 s)] (fun u=>u= .int .i64 (rD l s)):=by
 obtain⟨b1,b2,b3,b4⟩:=AG hl hs
 refine ae.intro ab ac Tryz.func128 rfl (by decide) ?_;(conv=>whnf)
 refine am rfl ?_
 conv=>whnf
 refine am rfl ?_
 conv=>whnf
 repeat' ((first|refine nI ?_|refine aI ?_|refine tI ?_|refine fI ?_|fail);conv=>whnf)
 exact⟨rfl,rfl⟩
def vt (p:ao) (s:az):Prop:=(1<=s.n/\s.n<=1048576)/\(0<=s.t/\s.t<=s.n)/\(0<=s.f/\s.f<=s.n)
def vu (p:ao) (s:az):Prop:=¬(p.fault=0/\(s.t≠0\/s.f≠0))
def xt (p:ao) (s:az):Prop:=¬(p.topology=4/\s.n.tmod 2=0)
def J7 (p:ao) (s:az):Prop:=∀j,j<p.resilience.length->0<=rD (p.resilience.getD j i0) s
def kA (p:ao) (s:az):Prop:=vt p s/\vu p s/\xt p s/\J7 p s
instance (p:ao) (s:az):Decidable (vt p s):=inferInstanceAs (Decidable (_/\_))
instance (p:ao) (s:az):Decidable (vu p s):=inferInstanceAs (Decidable (¬_))
instance (p:ao) (s:az):Decidable (xt p s):=inferInstanceAs (Decidable (¬_))
instance (p:ao) (s:az):Decidable (J7 p s):=inferInstanceAs (Decidable (∀j,j<p.resilience.length->_))
instance (p:ao) (s:az):Decidable (kA p s):=inferInstanceAs (Decidable (_/\_))
theorem AH {p:ao} {s:az} (h:vt p s):EK s:=by unfold vt at h;unfold EK;omega
theorem Mm (p:ao) (s:az) (hp:¬b9 p) (hr:s6 p):ae Tryz.prog 103 [.agg (bf p), .agg (b7 s)] (fun u=>u= .bool (decide (kA p s))):=by
 have hle:=aF hp
 refine ae.intro ab ac Tryz.func103 rfl (by decide) ?_;(conv=>whnf)
 refine am rfl ?_
 conv=>whnf
 refine am rfl ?_
 conv=>whnf
 by_cases hA:vt p s
 case neg=>
  have hno:¬kA p s:=fun h=>hA h.1
  unfold vt at hA
  repeat' ((first|refine nI ?_|refine aI ?_|refine uI ?_|refine vI ?_|refine dI ?_|refine dR ?_|refine dP ?_|refine am rfl ?_|refine pI _ rfl ?_|refine ak _ rfl ?_|refine tI ?_|refine fI ?_|refine ah (fun _=>?_) (fun _=>?_))<;>conv=>whnf)
  all_goals exact⟨aq hno,rfl⟩
 have hz:=AH hA
 have hA2:=hA
 unfold vt at hA2
 by_cases hC:vu p s
 case neg=>
  have hno:¬kA p s:=fun h=>hC h.2.1
  unfold vu at hC
  repeat' ((first|refine nI ?_|refine aI ?_|refine uI ?_|refine vI ?_|refine dI ?_|refine dR ?_|refine dP ?_|refine am rfl ?_|refine pI _ rfl ?_|refine ak _ rfl ?_|refine tI ?_|refine fI ?_|refine ah (fun _=>?_) (fun _=>?_))<;>conv=>whnf)
  all_goals exact⟨aq hno,rfl⟩
 have hC2:=hC
 unfold vu at hC2
 by_cases hD:xt p s
 case neg=>
  have hno:¬kA p s:=fun h=>hD h.2.2.1
  unfold xt at hD
  repeat' ((first|refine nI ?_|refine aI ?_|refine uI ?_|refine vI ?_|refine dI ?_|refine dR ?_|refine dP ?_|refine am rfl ?_|refine pI _ rfl ?_|refine ak _ rfl ?_|refine tI ?_|refine fI ?_|refine ah (fun _=>?_) (fun _=>?_))<;>conv=>whnf)
  all_goals exact⟨aq hno,rfl⟩
 have hD2:=hD
 unfold xt at hD2
 repeat' ((first|refine nI ?_|refine aI ?_|refine uI ?_|refine vI ?_|refine dI ?_|refine dR ?_|refine dP ?_|refine am rfl ?_|refine pI _ rfl ?_|refine ak _ rfl ?_|refine tI ?_|refine fI ?_|refine ah (fun _=>?_) (fun _=>?_))<;>conv=>whnf)
 all_goals
  refine aE.loopF ab ac (fun k:Nat=>k<=p.resilience.length/\∀j,j<k->0<=rD (p.resilience.getD j i0) s) (fun k=>[(69, .int .i64 (k:Int))]) (fun _=>[]) (fun k=>p.resilience.length-k) 0 ⟨by omega,fun j hj=>by omega⟩ ?_;conv=>whnf
  refine⟨sI,?_⟩
  rintro k ⟨hk,ha⟩
  conv=>whnf
  refine ah ?_ ?_<;>(intro h1;conv=>whnf)
  ·refine nI ?_
   rw[tN]
   conv=>whnf
   (refine oP (ua (p.resilience.getD k i0) s (hr k (by omega)) hz) ?_;conv=>whnf)
   refine eX (by decide) ?_
   conv=>whnf
   refine ah ?_ ?_<;>(intro h2;conv=>whnf)
   ·exact⟨aq (fun h=>by have:=h.2.2.2 k (by omega);omega),rfl⟩
   ·repeat' ((first|refine nI ?_|refine aI ?_|refine tI ?_|refine fI ?_|fail);conv=>whnf)
    refine⟨k+1,sI,⟨by omega,fun j hj=>?_⟩,by dsimp only;omega⟩
    by_cases e:j=k
    ·subst e;omega
    ·exact ha j (by omega)
  ·exact⟨aN ⟨hA,hC,hD,fun j hj=>ha j (by omega)⟩,rfl⟩
theorem Mn {n:Int} (h:0<=n):n.tmod 2=0\/n.tmod 2=1:=by
 rw[Int.tmod_eq_emod_of_nonneg h];omega
theorem px (p:ao) (s:az) (hp:¬b9 p) (hr:s6 p):ae Tryz.prog 92 [.agg (bf p), .agg (b7 s)] (fun u=>u= .bool (decide (kA p s))):=by
 have hle:=aF hp
 refine ae.intro ab ac Tryz.func92 rfl (by decide) ?_;(conv=>whnf)
 refine am rfl ?_
 conv=>whnf
 refine am rfl ?_
 conv=>whnf
 refine dC (bm _ _ _) (fun _=>?_) (fun _=>?_)<;>(conv=>whnf)
 case refine_2=>rename_i h;exact⟨aq (fun hh=>h hh.1.1),rfl⟩
 rename_i a1
 refine dC (bm _ _ _) (fun _=>?_) (fun _=>?_)<;>(conv=>whnf)
 case refine_2=>rename_i h;exact⟨aq (fun hh=>h hh.1.2.1),rfl⟩
 rename_i a2
 refine dC (bm _ _ _) (fun _=>?_) (fun _=>?_)<;>(conv=>whnf)
 case refine_2=>rename_i h;exact⟨aq (fun hh=>h hh.1.2.2),rfl⟩
 rename_i a3
 have hA:vt p s:=⟨a1,a2,a3⟩
 have hz:=AH hA
 have ht:=Mn (n:=s.n) (by omega)
 refine aE.loopF ab ac (fun k:Nat=>k<=p.resilience.length/\∀j,j<k->0<=rD (p.resilience.getD j i0) s) (fun k=>[(5, .int .i64 (k:Int))]) (fun _=>[]) (fun k=>p.resilience.length-k) 0 ⟨by omega,fun j hj=>by omega⟩ ?_;conv=>whnf
 refine⟨sI,?_⟩
 rintro k ⟨hk,ha⟩
 conv=>whnf
 refine ah ?_ ?_<;>(intro h1;conv=>whnf)
 ·refine dI ?_
  conv=>whnf
  refine nI ?_
  rw[tN]
  conv=>whnf
  (refine oC (EM (p.resilience.getD k i0) s (hr k (by omega)) hz) ?_;conv=>whnf)
  refine ah ?_ ?_<;>(intro h2;conv=>whnf)
  ·exact⟨aq (fun h=>by have:=h.2.2.2 k (by omega);omega),rfl⟩
  ·repeat' ((first|refine nI ?_|refine aI ?_|refine tI ?_|refine fI ?_|fail);conv=>whnf)
   refine⟨k+1,sI,⟨by omega,fun j hj=>?_⟩,by dsimp only;omega⟩
   by_cases e:j=k
   ·subst e;omega
   ·exact ha j (by omega)
 have hE:J7 p s:=fun j hj=>ha j (by omega)
 by_cases hC:vu p s
 case neg=>
  have hno:¬kA p s:=fun h=>hC h.2.1
  unfold vu at hC
  repeat' ((first|refine nI ?_|refine aI ?_|refine uI ?_|refine vI ?_|refine dI ?_|refine dR ?_|refine dP ?_|refine am rfl ?_|refine pI _ rfl ?_|refine ak _ rfl ?_|refine tI ?_|refine fI ?_|refine ah (fun _=>?_) (fun _=>?_))<;>conv=>whnf)
  all_goals exact⟨aq hno,rfl⟩
 by_cases hD:xt p s
 case neg=>
  have hno:¬kA p s:=fun h=>hD h.2.2.1
  unfold vu at hC
  unfold xt at hD
  repeat' ((first|refine nI ?_|refine aI ?_|refine uI ?_|refine vI ?_|refine dI ?_|refine dR ?_|refine dP ?_|refine am rfl ?_|refine pI _ rfl ?_|refine ak _ rfl ?_|refine tI ?_|refine fI ?_|refine ah (fun _=>?_) (fun _=>?_))<;>conv=>whnf)
  all_goals exact⟨aq hno,rfl⟩
 have hyes:kA p s:=⟨hA,hC,hD,hE⟩
 unfold vu at hC
 unfold xt at hD
 repeat' ((first|refine nI ?_|refine aI ?_|refine uI ?_|refine vI ?_|refine dI ?_|refine dR ?_|refine dP ?_|refine am rfl ?_|refine pI _ rfl ?_|refine ak _ rfl ?_|refine tI ?_|refine fI ?_|refine ah (fun _=>?_) (fun _=>?_))<;>conv=>whnf)
 all_goals exact⟨aN hyes,rfl⟩
theorem kB {p:ao} (h:bD p=0):s6 p:=by
 unfold bD at h
 refine Classical.byContradiction fun hn=>?_
 (repeat' split at h)<;>first|omega|exact absurd ‹¬¬s6 p› (fun hh=>hh hn)
def cT (p:ao) (s:az):Int:=if bD p≠0 then bD p else if¬kA p s then 8 else if 8<s.n then 4 else 0
theorem xu (p:ao) (s:az) (hp:¬b9 p) (hv:bD p=0):ae Tryz.prog 80 [.agg (bf p), .agg (b7 s)] (fun u=>u= .bool (decide (kA p s))):=by
 refine ae.intro ab ac Tryz.func80 rfl (by decide) ?_;(conv=>whnf)
 refine am rfl ?_
 conv=>whnf
 refine am rfl ?_
 conv=>whnf
 (refine oP (jU p (iO hp)) ?_;conv=>whnf)
 refine dH hv ?_
 conv=>whnf
 refine dC (Mm p s hp (kB hv)) (fun _=>?_) (fun _=>?_)<;>(conv=>whnf)
 ·rename_i h;exact⟨aN h,rfl⟩
 ·rename_i h;exact⟨aq h,rfl⟩
theorem zD (p:ao) (s:az) (hp:¬b9 p):ae Tryz.prog 41 [.agg (bf p), .agg (b7 s)] (fun u=>u= .int .i64 (cT p s)):=by
 refine ae.intro ab ac Tryz.func41 rfl (by decide) ?_;(conv=>whnf)
 refine am rfl ?_
 conv=>whnf
 refine am rfl ?_
 conv=>whnf
 (refine oP (jU p (iO hp)) ?_;conv=>whnf)
 refine ah ?_ ?_<;>(intro h1;conv=>whnf)
 ·(refine oP (jU p (iO hp)) ?_;conv=>whnf)
  exact⟨aj (by rw[cT,if_pos h1]),rfl⟩
 have h1:bD p=0:=by omega
 refine dC (xu p s hp h1) (fun _=>?_) (fun _=>?_)<;>(conv=>whnf)
 ·rename_i h2
  refine ah ?_ ?_<;>(intro h3;conv=>whnf)
  ·exact⟨aj (by rw[cT,if_neg (by omega),if_neg (fun h=>h h2),if_pos h3]),rfl⟩
  ·exact⟨aj (by rw[cT,if_neg (by omega),if_neg (fun h=>h h2),if_neg h3]),rfl⟩
 ·rename_i h2
  exact⟨aj (by rw[cT,if_neg (by omega),if_pos h2]),rfl⟩
theorem EN (p:ao) (s:az) (hp:¬b9 p):ae Tryz.prog 46 [.agg (bf p), .agg (b7 s)] (fun u=>u= .int .i64 (cT p s)):=by
 refine ae.intro ab ac Tryz.func46 rfl (by decide) ?_;(conv=>whnf)
 refine am rfl ?_
 conv=>whnf
 refine am rfl ?_
 conv=>whnf
 (refine oP (o0 p (iO hp)) ?_;conv=>whnf)
 refine ah ?_ ?_<;>(intro h1;conv=>whnf)
 ·exact⟨aj (by rw[cT,if_pos h1]),rfl⟩
 have h1:bD p=0:=by omega
 refine dC (px p s hp (kB h1)) (fun _=>?_) (fun _=>?_)<;>(conv=>whnf)
 ·rename_i h2
  refine ah ?_ ?_<;>(intro h3;conv=>whnf)
  ·exact⟨aj (by rw[cT,if_neg (by omega),if_neg (fun h=>h h2),if_pos h3]),rfl⟩
  ·exact⟨aj (by rw[cT,if_neg (by omega),if_neg (fun h=>h h2),if_neg h3]),rfl⟩
 ·rename_i h2
  exact⟨aj (by rw[cT,if_neg (by omega),if_pos h2]),rfl⟩
theorem dM {p:ao} {s:az} (h:cT p s=0):bD p=0/\kA p s/\1<=s.n/\s.n<=8/\0<=s.t/\s.t<=s.n/\0<=s.f/\s.f<=s.n:=by
 unfold cT at h
 split at h
 ·omega
 ·rename_i h1
  split at h
  ·omega
  ·rename_i h2
   split at h
   ·omega
   ·have h2:kA p s:=Classical.byContradiction h2
    have:=h2.1
    unfold vt at this
    exact⟨by omega,h2,by omega⟩
def ee (p:ao) (s:az):Int:=if p.fault=3 then s.n-s.f else s.n
theorem EO (p:ao) (s:az) (h:0<=s.n/\s.n<=1048576/\0<=s.f/\s.f<=1048576):ae Tryz.prog 151 [.agg (bf p), .agg (b7 s)] (fun u=>u= .int .i64 (ee p s)):=by
 refine ae.intro ab ac Tryz.func151 rfl (by decide) ?_;(conv=>whnf)
 refine am rfl ?_
 conv=>whnf
 refine am rfl ?_
 conv=>whnf
 repeat' ((first|refine nI ?_|refine aI ?_|refine uI ?_|refine vI ?_|refine dI ?_|refine dR ?_|refine dP ?_|refine am rfl ?_|refine pI _ rfl ?_|refine ak _ rfl ?_|refine tI ?_|refine fI ?_|refine ah (fun _=>?_) (fun _=>?_))<;>conv=>whnf)
 ·rename_i h3;exact⟨aj (by rw[ee,if_pos h3]),rfl⟩
 ·rename_i h3;exact⟨aj (by rw[ee,if_neg h3]),rfl⟩
theorem rE (p:ao) (s:az) (h:0<=s.n/\s.n<=1048576/\0<=s.f/\s.f<=1048576):ae Tryz.prog 49 [.agg (bf p), .agg (b7 s)] (fun u=>u= .int .i64 (ee p s)):=by
 refine ae.intro ab ac Tryz.func49 rfl (by decide) ?_;(conv=>whnf)
 refine am rfl ?_
 conv=>whnf
 refine am rfl ?_
 conv=>whnf
 repeat' ((first|refine nI ?_|refine aI ?_|refine uI ?_|refine vI ?_|refine dI ?_|refine dR ?_|refine dP ?_|refine am rfl ?_|refine pI _ rfl ?_|refine ak _ rfl ?_|refine tI ?_|refine fI ?_|refine ah (fun _=>?_) (fun _=>?_))<;>conv=>whnf)
 ·rename_i h3;exact⟨aj (by rw[ee,if_pos h3]),rfl⟩
 ·rename_i h3;exact⟨aj (by rw[ee,if_neg h3]),rfl⟩
end Go.Proofs.YtokjgegkhlkopaaGreatDoor
