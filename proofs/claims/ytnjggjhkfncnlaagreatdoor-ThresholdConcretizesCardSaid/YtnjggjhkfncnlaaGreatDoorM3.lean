import Derived.Test.YtnjggjhkfncnlaaGreatDoorFnT
set_option linter.unusedVariables false
set_option linter.unusedSimpArgs false
namespace Go.Proofs.YtnjggjhkfncnlaaGreatDoor
set_option maxRecDepth 100000
set_option maxHeartbeats 4000000
def I1 (l:List ByteArray):cn:=.row 9 t0 dX l
def F4 (l:List ByteArray):List AV:=[.sl t0 dX l]
theorem I2 (n:Nat) (h0:0<n) (hn:n<=1000):ak Tryz.prog 238 [.nilsl, .int .i64 (n:Int)] (aj.ofL []) (fun u M=>∃ℓ0,u= .row ℓ0 0 1/\M ℓ0=some (I1 [])):=by
 refine ak.intro ac ag [] Tryz.func238 rfl (by decide) ?_
 conv=>whnf
 repeat' ((first|refine nI ?_|refine aI ?_|refine tI ?_|refine fI ?_|fail);conv=>whnf)
 refine xF t0 dX t0 rfl (by dsimp only;omega) ?_
 conv=>whnf
 repeat' ((first|refine nI ?_|refine aI ?_|refine tI ?_|refine fI ?_|refine GE ?_|fail);conv=>whnf)
 exact⟨25,rfl,rfl⟩
theorem EK (ls:List (List ByteArray)) (hl:ls.length<=10) (h0:0<ls.flatten.length) (hn:ls.flatten.length<=1000):ab Tryz.prog 222 [.sl [] F4 ls] (fun u=>u= .sl t0 dX ls.flatten):=by
 have hpart:∀i,(ls.take i).flatten.length<=1000:=fun i=>by
  have:ls.flatten=(ls.take i).flatten++(ls.drop i).flatten:=by rw[<-List.flatten_append,List.take_append_drop]
  rw[this] at hn
  simp only[List.length_append] at hn
  omega
 have hsucc:∀i,i<ls.length->(ls.take (i+1)).flatten=(ls.take i).flatten++ls.getD i []:=fun i hi=>by
  rw[bl [] hi,List.flatten_append];simp
 refine ab.intro ac ag Tryz.func222 rfl (by decide) ?_;(conv=>whnf)
 refine aH.loopF ac ag (fun i:Nat=>i<=ls.length) (fun i=>[(11, .int .i64 (i:Int)),(3, .int .i64 ((ls.take i).flatten.length:Int))]) (fun _=>[]) (fun i=>ls.length-i) 0 (by omega) ?_;conv=>whnf
 refine⟨sI,?_⟩
 intro i hi
 conv=>whnf
 refine ah ?_ ?_<;>(intro h1;conv=>whnf)
 ·refine nI ?_
  rw[tN]
  have hs:=hsucc i (by omega)
  have h2:=hpart (i+1)
  rw[hs,List.length_append] at h2
  conv=>whnf
  repeat' ((first|refine nI ?_|refine aI ?_|refine tI ?_|refine fI ?_|fail);conv=>whnf)
  refine⟨i+1,?_,by omega,by dsimp only;omega⟩
  dsimp only
  rw[hs,List.length_append]
  exact sI
 ·obtain rfl:i=ls.length:=by omega
  rw[List.take_length]
  refine ak.fresh 24 (I2 _ h0 hn) rfl (aa) ?_
  conv=>whnf
  refine aH.loopF ac ag (fun i:Nat=>i<=ls.length) (fun i=>[(27, .int .i64 (i:Int)),(6, .row 1000 (ls.take i).flatten.length 1),(24, .top)]) (fun i=>[(1000,I1 (ls.take i).flatten)]) (fun i=>ls.length-i) 0 (by omega) ?_;conv=>whnf
  refine⟨aL.by_ [(1000, .old 24)] _ 400 rfl (aa) (aa),?_⟩
  intro i hi
  conv=>whnf
  refine ah ?_ ?_<;>(intro h1;conv=>whnf)
  ·refine nI ?_
   rw[tN]
   have hs:=hsucc i (by omega)
   have h2:=hpart (i+1)
   rw[hs,List.length_append] at h2
   conv=>whnf
   refine bD _ rfl (by dsimp only;omega) ?_
   conv=>whnf
   repeat' ((first|refine nI ?_|refine aI ?_|refine tI ?_|refine fI ?_|fail);conv=>whnf)
   refine⟨i+1,?_,by omega,by dsimp only;omega⟩
   dsimp only
   rw[hs,List.length_append]
   exact aL.by_ [(1000, .old 33)] _ 400 rfl (aa) (aa)
  ·obtain rfl:i=ls.length:=by omega
   rw[List.take_length]
   exact⟨rfl,rfl⟩
def nu (l:List ByteArray):Prop:=∀i,i<l.length->cx (l.getD i t0)/\l.getD i t0∉l.take i
instance (l:List ByteArray):Decidable (nu l):=inferInstanceAs (Decidable (∀i,i<l.length->_))
def dw (p:au):List ByteArray:=p.states++p.messages++p.values
theorem rH {p:au} (hp:gM p):∀i,((dw p).getD i t0).size<=140737488355328:=by
 intro i
 by_cases hi:i<(dw p).length
 ·have hm:=aP (l:=dw p) t0 hi
  unfold dw at hm
  simp only[List.mem_append] at hm
  rcases hm with (h|h)|h
  ·exact hp.ns.1 _ h
  ·exact hp.ns.2.1 _ h
  ·exact hp.ns.2.2 _ h
 ·rw[gD,List.getElem?_eq_none (by omega)];decide
theorem GP (p:au) (hp:gM p) (hle:p.states.length<=60/\p.messages.length<=60/\p.values.length<=60) (h0:0<p.states.length):ab Tryz.prog 192 [.agg (aO p)] (fun u=>u= .int .i64 (if nu (dw p) then 0 else 2)):=by
 have hsz:=rH hp
 have hlen:(dw p).length=p.states.length+p.messages.length+p.values.length:=by simp[dw];omega
 have hfl:[p.states,p.messages,p.values].flatten=dw p:=by simp[dw]
 have hc:=EK [p.states,p.messages,p.values] (by simp) (by rw[hfl];omega) (by rw[hfl];omega)
 rw[hfl] at hc
 refine ab.intro ac ag Tryz.func192 rfl (by decide) ?_;(conv=>whnf)
 refine al rfl ?_
 conv=>whnf
 refine bw [] F4 [p.states,p.messages,p.values] rfl ?_
 conv=>whnf
 refine ak.hand 12 rfl ?_
 (refine oP (hc) ?_;conv=>whnf)
 refine aH.loopF ac ag (fun i:Nat=>i<=(dw p).length/\∀j,j<i->cx ((dw p).getD j t0)/\(dw p).getD j t0∉(dw p).take j) (fun i=>[(16, .int .i64 (i:Int)),(12, .top)]) (fun _=>[]) (fun i=>(dw p).length-i) 0 ⟨by omega,fun j hj=>by omega⟩ ?_;conv=>whnf
 refine⟨sI,?_⟩
 rintro i ⟨hi,ha⟩
 conv=>whnf
 refine ah ?_ ?_<;>(intro h1;conv=>whnf)
 ·refine nI ?_
  rw[tN]
  conv=>whnf
  refine dC (fd _ (by have:=hsz i;omega)) (fun _=>?_) (fun _=>?_)<;>(conv=>whnf)
  ·rename_i hv
   refine nI ?_
   rw[tN]
   conv=>whnf
   refine dC (pM _ _ (by simp;omega)) (fun _=>?_) (fun _=>?_)<;>(conv=>whnf)
   ·rename_i hm
    exact⟨ae (by rw[if_neg (fun h:nu (dw p)=>(h i (by omega)).2 hm)]),rfl⟩
   ·rename_i hm
    repeat' ((first|refine nI ?_|refine aI ?_|refine tI ?_|refine fI ?_|fail);conv=>whnf)
    refine⟨i+1,sI,⟨by omega,fun j hj=>?_⟩,by dsimp only;omega⟩
    by_cases e:j=i
    ·subst e;exact⟨hv,hm⟩
    ·exact ha j (by omega)
  ·rename_i hv
   exact⟨ae (by rw[if_neg (fun h:nu (dw p)=>hv (h i (by omega)).1)]),rfl⟩
 ·exact⟨ae (by rw[if_pos (show nu (dw p) from fun j hj=>ha j (by omega))]),rfl⟩
set_option maxHeartbeats 8000000
def g9 (p:au):Int:=cz ((List.range p.rules.length).map fun i=>cg p i (p.rules.getD i ar))
def om (p:au):Prop:=∀j,j<p.resilience.length->c6 (p.resilience.getD j dc)
instance (p:au):Decidable (om p):=inferInstanceAs (Decidable (∀j,j<p.resilience.length->_))
def x8 (p:au):Int:=cz [bQ p.initial p.states.length,(if p.initial.length=0 then 1 else 0),bQ p.leader p.states.length,g9 p,(if 3<(aA p.rules).length then 4 else 0)]
def aB (p:au):Int:=
 if¬cx p.name then 2 else if p.topology<1\/4<p.topology\/p.fault<0\/3<p.fault then 1 else if p.states.length=0 then 1
 else if 6<p.states.length\/3<p.messages.length\/3<p.values.length\/4<p.resilience.length\/8<p.rules.length then 4
 else if¬nu (dw p) then 2
 else if(p.topology≠1/\(0<p.messages.length\/0<p.values.length\/0<p.resilience.length\/p.fault≠0))\/(p.topology=1/\0<p.leader.length) then 1
 else if¬om p then 4 else x8 p
theorem pP {n k:Nat} (h:k<n):(List.range n).getD k 0=k:=by
 rw[gD,List.getElem?_range h];rfl
theorem ci:∀{l:List Int},cz l=0->∀x∈l,x=0
 |[],_,x,hx=>by cases hx
 |a::l,h,x,hx=>by
  by_cases ha:a=0
  ·rw[av ha] at h
   rcases List.mem_cons.1 hx with rfl|hx
   ·exact ha
   ·exact ci h x hx
  ·rw[aw ha] at h;omega
theorem hH {p:au} {i:Nat} {r:bp} (h:cg p i r=0):cx r.name/\fe r.kind p.topology/\¬il r p.topology/\(0<=r.src/\r.src<p.states.length)/\(0<=r.dst/\r.dst<p.states.length)/\c7 p r=0:=by
 unfold cg at h
 by_cases h1:¬cx r.name\/gy p.rules i r
 ·rw[if_pos h1] at h;omega
 rw[if_neg h1] at h
 by_cases h2:¬fe r.kind p.topology\/il r p.topology
 ·rw[if_pos h2] at h;omega
 rw[if_neg h2] at h
 have hz:=ci h
 have b1:=hz (cL r.src p.states.length) (by simp)
 have b2:=hz (cL r.dst p.states.length) (by simp)
 unfold cL at b1 b2
 refine⟨Classical.not_not.1 fun e=>h1 (.inl e),Classical.not_not.1 fun e=>h2 (.inl e),fun e=>h2 (.inr e),?_,?_,hz _ (by simp)⟩
 ·split at b1<;>omega
 ·split at b2<;>omega
theorem pQ {m:Int} {l:List eg} (h:aG m l=0):l.length<=2:=by
 unfold aG at h
 split at h
 ·omega
 ·split at h<;>omega
theorem u5 {p:au} {i:Nat} {r:bp} (h:cg p i r=0):r.guards.length<=2:=by
 obtain⟨_,_,h3,_,_,h6⟩:=hH h
 by_cases k:r.kind=1
 ·unfold c7 at h6
  rw[if_pos k] at h6
  exact pQ (ci h6 (aG p.messages.length r.guards) (by simp))
 ·unfold il at h3;omega
theorem F5 {p:au} (h:g9 p=0) (hl:p.rules.length<=8):Ir p:=by
 refine⟨by omega,fun j hj=>?_⟩
 have:=u5 (ci h _ (List.mem_map.2 ⟨j,List.mem_range.2 hj,rfl⟩))
 omega
theorem fo (p:au) (hp:gM p):ab Tryz.prog 116 [.agg (aO p)] (fun u=>u= .int .i64 (aB p)):=by
 have hle:=iT hp
 have he:=aB.eq_1 p
 refine ab.intro ac ag Tryz.func116 rfl (by decide) ?_;(conv=>whnf)
 refine al rfl ?_
 conv=>whnf
 refine ah ?_ ?_<;>(intro ht;conv=>whnf)
 all_goals
  refine dC (fd p.name (by omega)) (fun _=>?_) (fun _=>?_)<;>(conv=>whnf)
  case refine_2=>rename_i hv;rw[if_pos hv] at he;exact⟨ae he.symm,rfl⟩
  rename_i hv
  rw[if_neg (fun h=>h hv)] at he
  by_cases hA:p.topology<1\/4<p.topology\/p.fault<0\/3<p.fault
  ·rw[if_pos hA] at he
   repeat' ((first|refine nI ?_|refine aI ?_|refine dz trivial (by omega) ?_|refine dV trivial (by omega) ?_|refine dI ?_|refine dR ?_|refine dP ?_|refine al rfl ?_|refine pI _ rfl ?_|refine ap _ rfl ?_|refine tI ?_|refine fI ?_|refine ah (fun _=>?_) (fun _=>?_))<;>conv=>whnf)
   all_goals exact⟨ae he.symm,rfl⟩
  rw[if_neg hA] at he
  by_cases h0:p.states.length=0
  ·rw[if_pos h0] at he
   repeat' ((first|refine nI ?_|refine aI ?_|refine tI ?_|refine fI ?_|fail);conv=>whnf)
   exact⟨ae he.symm,rfl⟩
  rw[if_neg h0] at he
  by_cases hB:6<p.states.length\/3<p.messages.length\/3<p.values.length\/4<p.resilience.length\/8<p.rules.length
  ·rw[if_pos hB] at he
   repeat' ((first|refine nI ?_|refine aI ?_|refine dz trivial (by omega) ?_|refine dV trivial (by omega) ?_|refine dI ?_|refine dR ?_|refine dP ?_|refine al rfl ?_|refine pI _ rfl ?_|refine ap _ rfl ?_|refine tI ?_|refine fI ?_|refine ah (fun _=>?_) (fun _=>?_))<;>conv=>whnf)
   all_goals exact⟨ae he.symm,rfl⟩
  rw[if_neg hB] at he
  repeat' ((first|refine nI ?_|refine aI ?_|refine tI ?_|refine fI ?_|fail);conv=>whnf)
  (refine oP (GP p hp (by omega) (by omega)) ?_;conv=>whnf)
  by_cases hN:nu (dw p)
  case neg=>
   rw[if_pos hN] at he
   rw[if_neg hN]
   repeat' ((first|refine nI ?_|refine aI ?_|refine tI ?_|refine fI ?_|fail);conv=>whnf)
   exact⟨ae he.symm,rfl⟩
  rw[if_neg (fun h=>h hN)] at he
  rw[if_pos hN]
  by_cases hC:(p.topology≠1/\(0<p.messages.length\/0<p.values.length\/0<p.resilience.length\/p.fault≠0))\/(p.topology=1/\0<p.leader.length)
  ·rw[if_pos hC] at he
   repeat' ((first|refine nI ?_|refine aI ?_|refine dz trivial (by omega) ?_|refine dV trivial (by omega) ?_|refine dI ?_|refine dR ?_|refine dP ?_|refine al rfl ?_|refine pI _ rfl ?_|refine ap _ rfl ?_|refine tI ?_|refine fI ?_|refine ah (fun _=>?_) (fun _=>?_))<;>conv=>whnf)
   all_goals exact⟨ae he.symm,rfl⟩
  rw[if_neg hC] at he
  repeat' ((first|refine nI ?_|refine aI ?_|refine tI ?_|refine fI ?_|fail);conv=>whnf)
  refine aH.loopF ac ag (fun k:Nat=>k<=p.resilience.length/\∀j,j<k->c6 (p.resilience.getD j dc)) (fun k=>[(113, .int .i64 (k:Int))]) (fun _=>[]) (fun k=>p.resilience.length-k) 0 ⟨by omega,fun j hj=>by omega⟩ ?_;conv=>whnf
  refine⟨sI,?_⟩
  rintro k ⟨hk,ha⟩
  conv=>whnf
  refine ah ?_ ?_<;>(intro h1;conv=>whnf)
  ·refine nI ?_
   rw[tN]
   conv=>whnf
   refine dC (mA (p.resilience.getD k dc)) (fun _=>?_) (fun _=>?_)<;>(conv=>whnf)
   ·rename_i hb
    repeat' ((first|refine nI ?_|refine aI ?_|refine tI ?_|refine fI ?_|fail);conv=>whnf)
    refine⟨k+1,sI,⟨by omega,fun j hj=>?_⟩,by dsimp only;omega⟩
    by_cases e:j=k
    ·subst e;exact hb
    ·exact ha j (by omega)
   ·rename_i hb
    rw[if_pos (fun h:om p=>hb (h k (by omega)))] at he
    exact⟨ae he.symm,rfl⟩
  rw[if_neg (fun h=>h (show om p from fun j hj=>ha j (by omega))),x8] at he
  refine dI ?_
  conv=>whnf
  (refine oC (lM p.initial _ (by omega)) ?_;conv=>whnf)
  have hf:∀x:Int,x=(if p.initial.length=0 then 1 else 0)->aB p=if cz [bQ p.initial p.states.length,x,bQ p.leader p.states.length]≠0 then cz [bQ p.initial p.states.length,x,bQ p.leader p.states.length] else cz [g9 p,(if 3<(aA p.rules).length then 4 else 0)]:=by
   rintro x rfl
   rw[he,show[bQ p.initial p.states.length,(if p.initial.length=0 then(1:Int) else 0),bQ p.leader p.states.length,g9 p,(if 3<(aA p.rules).length then 4 else 0)]=[bQ p.initial p.states.length,(if p.initial.length=0 then(1:Int) else 0),bQ p.leader p.states.length]++[g9 p,(if 3<(aA p.rules).length then 4 else 0)] from rfl,BG]
  clear he
  by_cases hI:p.initial.length=0
  ·have hx:=hf 1 (by rw[if_pos hI])
   repeat' ((first|refine nI ?_|refine aI ?_|refine tI ?_|refine fI ?_|fail);conv=>whnf)
   (refine oC (iH 1) ?_;conv=>whnf)
   (refine oC (lM p.leader _ (by omega)) ?_;conv=>whnf)
   refine dE ?_
   conv=>whnf
   (refine oC (cI _ (by simp)) ?_;conv=>whnf)
   refine ah ?_ ?_<;>(intro h1;conv=>whnf)
   ·rw[if_pos h1] at hx;exact⟨ae hx.symm,rfl⟩
   ·exfalso
    apply h1
    simp only[cz]
    (repeat' split)<;>omega
  have hx:=hf 0 (by rw[if_neg hI])
  repeat' ((first|refine nI ?_|refine aI ?_|refine tI ?_|refine fI ?_|fail);conv=>whnf)
  (refine oC (gH 1) ?_;conv=>whnf)
  (refine oC (lM p.leader _ (by omega)) ?_;conv=>whnf)
  refine dE ?_
  conv=>whnf
  (refine oC (cI _ (by simp)) ?_;conv=>whnf)
  refine ah ?_ ?_<;>(intro h1;conv=>whnf)
  ·rw[if_pos h1] at hx;exact⟨ae hx.symm,rfl⟩
  rw[if_neg h1] at hx
  refine aH.loopF ac ag (fun k:Nat=>k<=p.rules.length/\g9 p=cz (((List.range p.rules.length).drop k).map fun i=>cg p i (p.rules.getD i ar))) (fun k=>[(142, .int .i64 (k:Int))]) (fun _=>[]) (fun k=>p.rules.length-k) 0 ⟨by omega,rfl⟩ ?_;conv=>whnf
  refine⟨sI,?_⟩
  rintro k ⟨hk,hr⟩
  conv=>whnf
  refine ah ?_ ?_<;>(intro h2;conv=>whnf)
  ·rw[cf _ 0 (by simp;omega),pP (by omega)] at hr
   (refine oP (wQ p k hp (by omega)) ?_;conv=>whnf)
   refine ah ?_ ?_<;>(intro h3;conv=>whnf)
   ·rw[if_pos h3] at hr
    rw[hr,aw h3] at hx
    exact⟨ae hx.symm,rfl⟩
   ·rw[if_neg h3] at hr
    repeat' ((first|refine nI ?_|refine aI ?_|refine tI ?_|refine fI ?_|fail);conv=>whnf)
    exact⟨k+1,sI,⟨by omega,hr⟩,by dsimp only;omega⟩
  obtain rfl:k=p.rules.length:=by omega
  rw[List.drop_of_length_le (by simp)] at hr
  rw[av hr] at hx
  (refine oP (ob p (F5 (show g9 p=0 from hr) (by omega))) ?_;conv=>whnf)
  refine ah ?_ ?_<;>(intro h3;conv=>whnf)
  ·rw[if_pos (by omega)] at hx
   (refine oP (iH 4) ?_;conv=>whnf)
   exact⟨ae hx.symm,rfl⟩
  ·rw[if_neg (by omega)] at hx
   (refine oP (gH 4) ?_;conv=>whnf)
   exact⟨ae hx.symm,rfl⟩
theorem fY (p:au) (hp:gM p):ab Tryz.prog 142 [.agg (aO p)] (fun u=>u= .int .i64 (aB p)):=by
 have hle:=iT hp
 have he:=aB.eq_1 p
 have hsz:=rH hp
 have hlen:(dw p).length=p.states.length+p.messages.length+p.values.length:=by simp[dw];omega
 refine ab.intro ac ag Tryz.func142 rfl (by decide) ?_;(conv=>whnf)
 refine al rfl ?_
 conv=>whnf
 refine dC (jD p.name (by omega)) (fun _=>?_) (fun _=>?_)<;>(conv=>whnf)
 case refine_2=>rename_i hv;rw[if_pos hv] at he;exact⟨ae he.symm,rfl⟩
 rename_i hv
 rw[if_neg (fun h=>h hv)] at he
 refine dC (ax _ _ _) (fun _=>?_) (fun _=>?_)<;>(conv=>whnf)
 case refine_2=>rename_i h;rw[if_pos (by omega)] at he;exact⟨ae he.symm,rfl⟩
 rename_i hA1
 refine dC (ax _ _ _) (fun _=>?_) (fun _=>?_)<;>(conv=>whnf)
 case refine_2=>rename_i h;rw[if_pos (by omega)] at he;exact⟨ae he.symm,rfl⟩
 rename_i hA2
 rw[if_neg (by omega)] at he
 by_cases h0:p.states.length=0
 ·rw[if_pos h0] at he
  repeat' ((first|refine nI ?_|refine aI ?_|refine tI ?_|refine fI ?_|fail);conv=>whnf)
  exact⟨ae he.symm,rfl⟩
 rw[if_neg h0] at he
 by_cases hB:6<p.states.length\/3<p.messages.length\/3<p.values.length\/4<p.resilience.length\/8<p.rules.length
 ·rw[if_pos hB] at he
  repeat' ((first|refine nI ?_|refine aI ?_|refine dz trivial (by omega) ?_|refine dV trivial (by omega) ?_|refine dI ?_|refine dR ?_|refine dP ?_|refine al rfl ?_|refine pI _ rfl ?_|refine ap _ rfl ?_|refine tI ?_|refine fI ?_|refine ah (fun _=>?_) (fun _=>?_))<;>conv=>whnf)
  all_goals exact⟨ae he.symm,rfl⟩
 rw[if_neg hB] at he
 repeat' ((first|refine nI ?_|refine aI ?_|refine tI ?_|refine fI ?_|fail);conv=>whnf)
 refine dP ?_
 conv=>whnf
 refine bw t0 dX [] rfl ?_
 conv=>whnf
 refine cb ?_
 conv=>whnf
 refine bD _ rfl (by dsimp only;simp only[List.length_nil];omega) ?_
 conv=>whnf
 refine bD _ rfl (by simp only[List.length_append,List.length_nil];omega) ?_
 conv=>whnf
 refine bD _ rfl (by simp only[List.length_append,List.length_nil];omega) ?_
 conv=>whnf
 refine aH.loopF ac ag (fun i:Nat=>i<=(dw p).length/\∀j,j<i->cx ((dw p).getD j t0)/\(dw p).getD j t0∉(dw p).take j) (fun i=>[(4, .int .i64 (i:Int)),(3, .sl t0 dX (dw p)),(56, .top),(59, .top),(62, .top),(65, .top)]) (fun _=>[]) (fun i=>(dw p).length-i) 0 ⟨by omega,fun j hj=>by omega⟩ ?_;conv=>whnf
 refine⟨aL.leak 65 rfl (aL.by_ [] [] 400 rfl trivial (aa)),?_⟩
 rintro i ⟨hi,ha⟩
 conv=>whnf
 refine ah ?_ ?_<;>(intro h1;conv=>whnf)
 ·refine dI ?_
  conv=>whnf
  refine nI ?_
  rw[tN]
  conv=>whnf
  refine dD (jD _ (by have:=hsz i;omega)) (fun _=>?_) (fun _=>?_)<;>(conv=>whnf)
  ·rename_i hv
   refine nI ?_
   rw[tN]
   conv=>whnf
   refine nI ?_
   rw[tN]
   conv=>whnf
   refine dD (uU _ _ (by simp;omega)) (fun _=>?_) (fun _=>?_)<;>(conv=>whnf)
   ·rename_i hm
    rw[if_pos (fun h:nu (dw p)=>(h i (by omega)).2 hm)] at he
    exact⟨ae he.symm,rfl⟩
   ·rename_i hm
    repeat' ((first|refine nI ?_|refine aI ?_|refine tI ?_|refine fI ?_|fail);conv=>whnf)
    refine⟨i+1,sI,⟨by omega,fun j hj=>?_⟩,by dsimp only;omega⟩
    by_cases e:j=i
    ·subst e;exact⟨hv,hm⟩
    ·exact ha j (by omega)
  ·rename_i hv
   rw[if_pos (fun h:nu (dw p)=>hv (h i (by omega)).1)] at he
   exact⟨ae he.symm,rfl⟩
 rw[if_neg (fun h=>h (show nu (dw p) from fun j hj=>ha j (by omega)))] at he
 by_cases hC:(p.topology≠1/\(0<p.messages.length\/0<p.values.length\/0<p.resilience.length\/p.fault≠0))\/(p.topology=1/\0<p.leader.length)
 ·rw[if_pos hC] at he
  repeat' ((first|refine nI ?_|refine aI ?_|refine dz trivial (by omega) ?_|refine dV trivial (by omega) ?_|refine dI ?_|refine dR ?_|refine dP ?_|refine al rfl ?_|refine pI _ rfl ?_|refine ap _ rfl ?_|refine tI ?_|refine fI ?_|refine ah (fun _=>?_) (fun _=>?_))<;>conv=>whnf)
  all_goals exact⟨ae he.symm,rfl⟩
 rw[if_neg hC] at he
 refine ah ?_ ?_<;>(intro ht;conv=>whnf)
 all_goals
  repeat' ((first|refine nI ?_|refine aI ?_|refine tI ?_|refine fI ?_|fail);conv=>whnf)
  refine aH.loopF ac ag (fun k:Nat=>k<=p.resilience.length/\∀j,j<k->c6 (p.resilience.getD j dc)) (fun k=>[(5, .int .i64 (k:Int))]) (fun _=>[]) (fun k=>p.resilience.length-k) 0 ⟨by omega,fun j hj=>by omega⟩ ?_;conv=>whnf
  refine⟨sI,?_⟩
  rintro k ⟨hk,ha⟩
  conv=>whnf
  refine ah ?_ ?_<;>(intro h1;conv=>whnf)
  ·refine nI ?_
   rw[tN]
   conv=>whnf
   refine dC (wM (p.resilience.getD k dc)) (fun _=>?_) (fun _=>?_)<;>(conv=>whnf)
   ·rename_i hb
    repeat' ((first|refine nI ?_|refine aI ?_|refine tI ?_|refine fI ?_|fail);conv=>whnf)
    refine⟨k+1,sI,⟨by omega,fun j hj=>?_⟩,by dsimp only;omega⟩
    by_cases e:j=k
    ·subst e;exact hb
    ·exact ha j (by omega)
   ·rename_i hb
    rw[if_pos (fun h:om p=>hb (h k (by omega)))] at he
    exact⟨ae he.symm,rfl⟩
  rw[if_neg (fun h=>h (show om p from fun j hj=>ha j (by omega))),x8] at he
  (refine oP (bk p.initial _ (by omega) (by omega)) ?_;conv=>whnf)
  refine ah ?_ ?_<;>(intro hx;conv=>whnf)
  ·exact⟨ae (by rw[he,aw hx]),rfl⟩
  rw[av (by omega)] at he
  refine ah ?_ ?_<;>(intro hx;conv=>whnf)
  ·exact⟨ae (by rw[he,if_pos (by omega),aw (by decide)]),rfl⟩
  rw[if_neg (by omega),av rfl] at he
  (refine oP (bk p.leader _ (by omega) (by omega)) ?_;conv=>whnf)
  refine ah ?_ ?_<;>(intro hx;conv=>whnf)
  ·exact⟨ae (by rw[he,aw hx]),rfl⟩
  rw[av (by omega)] at he
  refine aH.loopF ac ag (fun k:Nat=>k<=p.rules.length/\g9 p=cz (((List.range p.rules.length).drop k).map fun i=>cg p i (p.rules.getD i ar))) (fun k=>[(8, .int .i64 (k:Int))]) (fun _=>[]) (fun k=>p.rules.length-k) 0 ⟨by omega,rfl⟩ ?_;conv=>whnf
  refine⟨sI,?_⟩
  rintro k ⟨hk,hr⟩
  conv=>whnf
  refine ah ?_ ?_<;>(intro h2;conv=>whnf)
  ·rw[cf _ 0 (by simp;omega),pP (by omega)] at hr
   (refine oP (IZ p k hp (by omega)) ?_;conv=>whnf)
   refine ah ?_ ?_<;>(intro h3;conv=>whnf)
   ·rw[if_pos h3] at hr
    rw[hr,aw h3] at he
    exact⟨ae he.symm,rfl⟩
   ·rw[if_neg h3] at hr
    repeat' ((first|refine nI ?_|refine aI ?_|refine tI ?_|refine fI ?_|fail);conv=>whnf)
    exact⟨k+1,sI,⟨by omega,hr⟩,by dsimp only;omega⟩
  obtain rfl:k=p.rules.length:=by omega
  rw[List.drop_of_length_le (by simp)] at hr
  rw[av hr] at he
  (refine oP (rF p (F5 (show g9 p=0 from hr) (by omega))) ?_;conv=>whnf)
  refine ah ?_ ?_<;>(intro h3;conv=>whnf)
  ·rw[if_pos (by omega)] at he
   exact⟨ae he.symm,rfl⟩
  ·rw[if_neg (by omega)] at he
   exact⟨ae he.symm,rfl⟩
structure bA where
 n:Int
 t:Int
 f:Int
def cj (s:bA):List AV:=[.int .i64 s.n, .int .i64 s.t, .int .i64 s.f]
def iK (l:g7) (s:bA):Int:=l.c+l.n*s.n+l.t*s.t+l.f*s.f
def Ah (s:bA):Prop:=(0<=s.n/\s.n<=1048576)/\(0<=s.t/\s.t<=1048576)/\(0<=s.f/\s.f<=1048576)
theorem BH {a b:Int} (ha:bO a) (hb:0<=b/\b<=1048576):-104857600<=a*b/\a*b<=104857600:=by
 unfold bO at ha
 have h1:a*b<=100*b:=Int.mul_le_mul_of_nonneg_right ha.2 hb.1
 have h2:-100*b<=a*b:=Int.mul_le_mul_of_nonneg_right ha.1 hb.1
 omega
theorem x9 {l:g7} {s:bA} (hl:c6 l) (hs:Ah s):(-104857600<=l.n*s.n/\l.n*s.n<=104857600)/\(-104857600<=l.t*s.t/\l.t*s.t<=104857600)/\(-104857600<=l.f*s.f/\l.f*s.f<=104857600)/\(-100<=l.c/\l.c<=100):=
 ⟨BH hl.2.1 hs.1,BH hl.2.2.1 hs.2.1,BH hl.2.2.2 hs.2.2,hl.1⟩
theorem rI (l:g7) (s:bA) (hl:c6 l) (hs:Ah s):ab Tryz.prog 69 [.agg (bM l), .agg (cj s)] (fun u=>u= .tup [.int .i64 (iK l s), .int .i64 0]):=by
 obtain⟨b1,b2,b3,b4⟩:=x9 hl hs
 refine ab.intro ac ag Tryz.func69 rfl (by decide) ?_;(conv=>whnf)
 refine al rfl ?_
 conv=>whnf
 refine al rfl ?_
 conv=>whnf
 refine dC (mA l) (fun _=>?_) (fun _=>?_)<;>(conv=>whnf)
 case refine_2=>rename_i h;exact absurd hl h
 refine aH.loopF ac ag (fun k:Nat=>k<=3) (fun k=>[(19, .int .i64 (k:Int))]) (fun _=>[(17, .row 3 0 an [s.n,s.t,s.f])]) (fun k=>3-k) 0 (by omega) ?_;conv=>whnf
 refine⟨sI,?_⟩
 intro k hk
 conv=>whnf
 refine ah ?_ ?_<;>(intro h1;conv=>whnf)
 ·refine nI ?_
  rw[tN]
  have hx:0<=[s.n,s.t,s.f].getD k 0/\[s.n,s.t,s.f].getD k 0<=1048576:=by
   obtain⟨c1,c2,c3⟩:=hs
   have:k=0\/k=1\/k=2:=by omega
   rcases this with rfl|rfl|rfl
   ·exact c1
   ·exact c2
   ·exact c3
  conv=>whnf
  repeat' ((first|refine nI ?_|refine aI ?_|refine tI ?_|refine fI ?_|fail);conv=>whnf)
  exact⟨k+1,sI,by omega,by dsimp only;omega⟩
 ·repeat' ((first|refine nI ?_|refine aI ?_|refine tI ?_|refine fI ?_|fail);conv=>whnf)
  exact⟨rfl,rfl⟩
theorem BI (l:g7) (s:bA) (hl:c6 l) (hs:Ah s):ab Tryz.prog 159 [.agg (bM l), .agg (cj s)] (fun u=>u= .int .i64 (iK l s)):=by
 obtain⟨b1,b2,b3,b4⟩:=x9 hl hs
 refine ab.intro ac ag Tryz.func159 rfl (by decide) ?_;(conv=>whnf)
 refine al rfl ?_
 conv=>whnf
 refine al rfl ?_
 conv=>whnf
 repeat' ((first|refine nI ?_|refine aI ?_|refine tI ?_|refine fI ?_|fail);conv=>whnf)
 exact⟨rfl,rfl⟩
def qM (p:au) (s:bA):Prop:=(1<=s.n/\s.n<=1048576)/\(0<=s.t/\s.t<=s.n)/\(0<=s.f/\s.f<=s.n)
def qN (p:au) (s:bA):Prop:=¬(p.fault=0/\(s.t≠0\/s.f≠0))
def sR (p:au) (s:bA):Prop:=¬(p.topology=4/\s.n.tmod 2=0)
def GQ (p:au) (s:bA):Prop:=∀j,j<p.resilience.length->0<=iK (p.resilience.getD j dc) s
def li (p:au) (s:bA):Prop:=qM p s/\qN p s/\sR p s/\GQ p s
instance (p:au) (s:bA):Decidable (qM p s):=inferInstanceAs (Decidable (_/\_))
instance (p:au) (s:bA):Decidable (qN p s):=inferInstanceAs (Decidable (¬_))
instance (p:au) (s:bA):Decidable (sR p s):=inferInstanceAs (Decidable (¬_))
instance (p:au) (s:bA):Decidable (GQ p s):=inferInstanceAs (Decidable (∀j,j<p.resilience.length->_))
instance (p:au) (s:bA):Decidable (li p s):=inferInstanceAs (Decidable (_/\_))
theorem ya {p:au} {s:bA} (h:qM p s):Ah s:=by unfold qM at h;unfold Ah;omega
theorem J6 (p:au) (s:bA) (hp:¬fD p) (hr:om p):ab Tryz.prog 194 [.agg (aO p), .agg (cj s)] (fun u=>u= .bool (decide (li p s))):=by
 have hle:=b7 hp
 refine ab.intro ac ag Tryz.func194 rfl (by decide) ?_;(conv=>whnf)
 refine al rfl ?_
 conv=>whnf
 refine al rfl ?_
 conv=>whnf
 by_cases hA:qM p s
 case neg=>
  have hno:¬li p s:=fun h=>hA h.1
  unfold qM at hA
  repeat' ((first|refine nI ?_|refine aI ?_|refine dz trivial (by omega) ?_|refine dV trivial (by omega) ?_|refine dI ?_|refine dR ?_|refine dP ?_|refine al rfl ?_|refine pI _ rfl ?_|refine ap _ rfl ?_|refine tI ?_|refine fI ?_|refine ah (fun _=>?_) (fun _=>?_))<;>conv=>whnf)
  all_goals exact⟨aq hno,rfl⟩
 have hz:=ya hA
 have hA2:=hA
 unfold qM at hA2
 by_cases hC:qN p s
 case neg=>
  have hno:¬li p s:=fun h=>hC h.2.1
  unfold qN at hC
  repeat' ((first|refine nI ?_|refine aI ?_|refine dz trivial (by omega) ?_|refine dV trivial (by omega) ?_|refine dI ?_|refine dR ?_|refine dP ?_|refine al rfl ?_|refine pI _ rfl ?_|refine ap _ rfl ?_|refine tI ?_|refine fI ?_|refine ah (fun _=>?_) (fun _=>?_))<;>conv=>whnf)
  all_goals exact⟨aq hno,rfl⟩
 have hC2:=hC
 unfold qN at hC2
 by_cases hD:sR p s
 case neg=>
  have hno:¬li p s:=fun h=>hD h.2.2.1
  unfold sR at hD
  repeat' ((first|refine nI ?_|refine aI ?_|refine dz trivial (by omega) ?_|refine dV trivial (by omega) ?_|refine dI ?_|refine dR ?_|refine dP ?_|refine al rfl ?_|refine pI _ rfl ?_|refine ap _ rfl ?_|refine tI ?_|refine fI ?_|refine ah (fun _=>?_) (fun _=>?_))<;>conv=>whnf)
  all_goals exact⟨aq hno,rfl⟩
 have hD2:=hD
 unfold sR at hD2
 repeat' ((first|refine nI ?_|refine aI ?_|refine dz trivial (by omega) ?_|refine dV trivial (by omega) ?_|refine dI ?_|refine dR ?_|refine dP ?_|refine al rfl ?_|refine pI _ rfl ?_|refine ap _ rfl ?_|refine tI ?_|refine fI ?_|refine ah (fun _=>?_) (fun _=>?_))<;>conv=>whnf)
 all_goals
  refine aH.loopF ac ag (fun k:Nat=>k<=p.resilience.length/\∀j,j<k->0<=iK (p.resilience.getD j dc) s) (fun k=>[(69, .int .i64 (k:Int))]) (fun _=>[]) (fun k=>p.resilience.length-k) 0 ⟨by omega,fun j hj=>by omega⟩ ?_;conv=>whnf
  refine⟨sI,?_⟩
  rintro k ⟨hk,ha⟩
  conv=>whnf
  refine ah ?_ ?_<;>(intro h1;conv=>whnf)
  ·refine nI ?_
   rw[tN]
   conv=>whnf
   (refine oP (rI (p.resilience.getD k dc) s (hr k (by omega)) hz) ?_;conv=>whnf)
   refine j' (by decide) ?_
   conv=>whnf
   refine ah ?_ ?_<;>(intro h2;conv=>whnf)
   ·exact⟨aq (fun h=>by have:=h.2.2.2 k (by omega);omega),rfl⟩
   ·repeat' ((first|refine nI ?_|refine aI ?_|refine tI ?_|refine fI ?_|fail);conv=>whnf)
    refine⟨k+1,sI,⟨by omega,fun j hj=>?_⟩,by dsimp only;omega⟩
    by_cases e:j=k
    ·subst e;omega
    ·exact ha j (by omega)
  ·exact⟨az ⟨hA,hC,hD,fun j hj=>ha j (by omega)⟩,rfl⟩
theorem I3 {n:Int} (h:0<=n):n.tmod 2=0\/n.tmod 2=1:=by
 rw[Int.tmod_eq_emod_of_nonneg h];omega
theorem kF (p:au) (s:bA) (hp:¬fD p) (hr:om p):ab Tryz.prog 148 [.agg (aO p), .agg (cj s)] (fun u=>u= .bool (decide (li p s))):=by
 have hle:=b7 hp
 refine ab.intro ac ag Tryz.func148 rfl (by decide) ?_;(conv=>whnf)
 refine al rfl ?_
 conv=>whnf
 refine al rfl ?_
 conv=>whnf
 refine dC (ax _ _ _) (fun _=>?_) (fun _=>?_)<;>(conv=>whnf)
 case refine_2=>rename_i h;exact⟨aq (fun hh=>h hh.1.1),rfl⟩
 rename_i a1
 refine dC (ax _ _ _) (fun _=>?_) (fun _=>?_)<;>(conv=>whnf)
 case refine_2=>rename_i h;exact⟨aq (fun hh=>h hh.1.2.1),rfl⟩
 rename_i a2
 refine dC (ax _ _ _) (fun _=>?_) (fun _=>?_)<;>(conv=>whnf)
 case refine_2=>rename_i h;exact⟨aq (fun hh=>h hh.1.2.2),rfl⟩
 rename_i a3
 have hA:qM p s:=⟨a1,a2,a3⟩
 have hz:=ya hA
 have ht:=I3 (n:=s.n) (by omega)
 refine aH.loopF ac ag (fun k:Nat=>k<=p.resilience.length/\∀j,j<k->0<=iK (p.resilience.getD j dc) s) (fun k=>[(5, .int .i64 (k:Int))]) (fun _=>[]) (fun k=>p.resilience.length-k) 0 ⟨by omega,fun j hj=>by omega⟩ ?_;conv=>whnf
 refine⟨sI,?_⟩
 rintro k ⟨hk,ha⟩
 conv=>whnf
 refine ah ?_ ?_<;>(intro h1;conv=>whnf)
 ·refine dI ?_
  conv=>whnf
  refine nI ?_
  rw[tN]
  conv=>whnf
  (refine oC (BI (p.resilience.getD k dc) s (hr k (by omega)) hz) ?_;conv=>whnf)
  refine ah ?_ ?_<;>(intro h2;conv=>whnf)
  ·exact⟨aq (fun h=>by have:=h.2.2.2 k (by omega);omega),rfl⟩
  ·repeat' ((first|refine nI ?_|refine aI ?_|refine tI ?_|refine fI ?_|fail);conv=>whnf)
   refine⟨k+1,sI,⟨by omega,fun j hj=>?_⟩,by dsimp only;omega⟩
   by_cases e:j=k
   ·subst e;omega
   ·exact ha j (by omega)
 have hE:GQ p s:=fun j hj=>ha j (by omega)
 by_cases hC:qN p s
 case neg=>
  have hno:¬li p s:=fun h=>hC h.2.1
  unfold qN at hC
  repeat' ((first|refine nI ?_|refine aI ?_|refine dz trivial (by omega) ?_|refine dV trivial (by omega) ?_|refine dI ?_|refine dR ?_|refine dP ?_|refine al rfl ?_|refine pI _ rfl ?_|refine ap _ rfl ?_|refine tI ?_|refine fI ?_|refine ah (fun _=>?_) (fun _=>?_))<;>conv=>whnf)
  all_goals exact⟨aq hno,rfl⟩
 by_cases hD:sR p s
 case neg=>
  have hno:¬li p s:=fun h=>hD h.2.2.1
  unfold qN at hC
  unfold sR at hD
  repeat' ((first|refine nI ?_|refine aI ?_|refine dz trivial (by omega) ?_|refine dV trivial (by omega) ?_|refine dI ?_|refine dR ?_|refine dP ?_|refine al rfl ?_|refine pI _ rfl ?_|refine ap _ rfl ?_|refine tI ?_|refine fI ?_|refine ah (fun _=>?_) (fun _=>?_))<;>conv=>whnf)
  all_goals exact⟨aq hno,rfl⟩
 have hyes:li p s:=⟨hA,hC,hD,hE⟩
 unfold qN at hC
 unfold sR at hD
 repeat' ((first|refine nI ?_|refine aI ?_|refine dz trivial (by omega) ?_|refine dV trivial (by omega) ?_|refine dI ?_|refine dR ?_|refine dP ?_|refine al rfl ?_|refine pI _ rfl ?_|refine ap _ rfl ?_|refine tI ?_|refine fI ?_|refine ah (fun _=>?_) (fun _=>?_))<;>conv=>whnf)
 all_goals exact⟨az hyes,rfl⟩
theorem jE {p:au} (h:aB p=0):om p:=by
 unfold aB at h
 refine Classical.byContradiction fun hn=>?_
 (repeat' split at h)<;>first|omega|exact absurd ‹¬¬om p› (fun hh=>hh hn)
def bG (p:au) (s:bA):Int:=if aB p≠0 then aB p else if¬li p s then 8 else if 8<s.n then 4 else 0
theorem oc (p:au) (s:bA) (hp:¬fD p) (hv:aB p=0):ab Tryz.prog 117 [.agg (aO p), .agg (cj s)] (fun u=>u= .bool (decide (li p s))):=by
 refine ab.intro ac ag Tryz.func117 rfl (by decide) ?_;(conv=>whnf)
 refine al rfl ?_
 conv=>whnf
 refine al rfl ?_
 conv=>whnf
 (refine oP (fo p (pL hp)) ?_;conv=>whnf)
 refine da hv ?_
 conv=>whnf
 refine dC (J6 p s hp (jE hv)) (fun _=>?_) (fun _=>?_)<;>(conv=>whnf)
 ·rename_i h;exact⟨az h,rfl⟩
 ·rename_i h;exact⟨aq h,rfl⟩
theorem wR (p:au) (s:bA) (hp:¬fD p):ab Tryz.prog 55 [.agg (aO p), .agg (cj s)] (fun u=>u= .int .i64 (bG p s)):=by
 refine ab.intro ac ag Tryz.func55 rfl (by decide) ?_;(conv=>whnf)
 refine al rfl ?_
 conv=>whnf
 refine al rfl ?_
 conv=>whnf
 (refine oP (fo p (pL hp)) ?_;conv=>whnf)
 refine ah ?_ ?_<;>(intro h1;conv=>whnf)
 ·(refine oP (fo p (pL hp)) ?_;conv=>whnf)
  exact⟨ae (by rw[bG,if_pos h1]),rfl⟩
 have h1:aB p=0:=by omega
 refine dC (oc p s hp h1) (fun _=>?_) (fun _=>?_)<;>(conv=>whnf)
 ·rename_i h2
  refine ah ?_ ?_<;>(intro h3;conv=>whnf)
  ·exact⟨ae (by rw[bG,if_neg (by omega),if_neg (fun h=>h h2),if_pos h3]),rfl⟩
  ·exact⟨ae (by rw[bG,if_neg (by omega),if_neg (fun h=>h h2),if_neg h3]),rfl⟩
 ·rename_i h2
  exact⟨ae (by rw[bG,if_neg (by omega),if_pos h2]),rfl⟩
theorem GR (p:au) (s:bA) (hp:¬fD p):ab Tryz.prog 75 [.agg (aO p), .agg (cj s)] (fun u=>u= .int .i64 (bG p s)):=by
 refine ab.intro ac ag Tryz.func75 rfl (by decide) ?_;(conv=>whnf)
 refine al rfl ?_
 conv=>whnf
 refine al rfl ?_
 conv=>whnf
 (refine oP (fY p (pL hp)) ?_;conv=>whnf)
 refine ah ?_ ?_<;>(intro h1;conv=>whnf)
 ·exact⟨ae (by rw[bG,if_pos h1]),rfl⟩
 have h1:aB p=0:=by omega
 refine dC (kF p s hp (jE h1)) (fun _=>?_) (fun _=>?_)<;>(conv=>whnf)
 ·rename_i h2
  refine ah ?_ ?_<;>(intro h3;conv=>whnf)
  ·exact⟨ae (by rw[bG,if_neg (by omega),if_neg (fun h=>h h2),if_pos h3]),rfl⟩
  ·exact⟨ae (by rw[bG,if_neg (by omega),if_neg (fun h=>h h2),if_neg h3]),rfl⟩
 ·rename_i h2
  exact⟨ae (by rw[bG,if_neg (by omega),if_pos h2]),rfl⟩
theorem hJ {p:au} {s:bA} (h:bG p s=0):aB p=0/\li p s/\1<=s.n/\s.n<=8/\0<=s.t/\s.t<=s.n/\0<=s.f/\s.f<=s.n:=by
 unfold bG at h
 split at h
 ·omega
 ·rename_i h1
  split at h
  ·omega
  ·rename_i h2
   split at h
   ·omega
   ·have h2:li p s:=Classical.byContradiction h2
    have:=h2.1
    unfold qM at this
    exact⟨by omega,h2,by omega⟩
def iU (p:au) (s:bA):Int:=if p.fault=3 then s.n-s.f else s.n
theorem u6 (p:au) (s:bA) (h:0<=s.n/\s.n<=1048576/\0<=s.f/\s.f<=1048576):ab Tryz.prog 119 [.agg (aO p), .agg (cj s)] (fun u=>u= .int .i64 (iU p s)):=by
 refine ab.intro ac ag Tryz.func119 rfl (by decide) ?_;(conv=>whnf)
 refine al rfl ?_
 conv=>whnf
 refine al rfl ?_
 conv=>whnf
 repeat' ((first|refine nI ?_|refine aI ?_|refine dz trivial (by omega) ?_|refine dV trivial (by omega) ?_|refine dI ?_|refine dR ?_|refine dP ?_|refine al rfl ?_|refine pI _ rfl ?_|refine ap _ rfl ?_|refine tI ?_|refine fI ?_|refine ah (fun _=>?_) (fun _=>?_))<;>conv=>whnf)
 ·rename_i h3;exact⟨ae (by rw[iU,if_pos h3]),rfl⟩
 ·rename_i h3;exact⟨ae (by rw[iU,if_neg h3]),rfl⟩
theorem u7 (p:au) (s:bA) (h:0<=s.n/\s.n<=1048576/\0<=s.f/\s.f<=1048576):ab Tryz.prog 149 [.agg (aO p), .agg (cj s)] (fun u=>u= .int .i64 (iU p s)):=by
 refine ab.intro ac ag Tryz.func149 rfl (by decide) ?_;(conv=>whnf)
 refine al rfl ?_
 conv=>whnf
 refine al rfl ?_
 conv=>whnf
 repeat' ((first|refine nI ?_|refine aI ?_|refine dz trivial (by omega) ?_|refine dV trivial (by omega) ?_|refine dI ?_|refine dR ?_|refine dP ?_|refine al rfl ?_|refine pI _ rfl ?_|refine ap _ rfl ?_|refine tI ?_|refine fI ?_|refine ah (fun _=>?_) (fun _=>?_))<;>conv=>whnf)
 ·rename_i h3;exact⟨ae (by rw[iU,if_pos h3]),rfl⟩
 ·rename_i h3;exact⟨ae (by rw[iU,if_neg h3]),rfl⟩
end Go.Proofs.YtnjggjhkfncnlaaGreatDoor
