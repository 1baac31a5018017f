import Derived.Test.YtekmminpfhacpaaGreatDoorFnT
set_option linter.unusedVariables false
set_option linter.unusedSimpArgs false
namespace Go.Proofs.YtekmminpfhacpaaGreatDoor
set_option maxRecDepth 100000
set_option maxHeartbeats 4000000
def MH (l:List ByteArray):cp:=.row 9 t0 fd l
def JG (l:List ByteArray):List AV:=[.sl t0 fd l]
theorem MJ (n:Nat) (h0:0<n) (hn:n<=1000):am Tryz.prog 287 [.nilsl, .int .i64 (n:Int)] (aj.ofL []) (fun u M=>∃ℓ0,u= .row ℓ0 0 1/\M ℓ0=some (MH [])):=by
 refine am.intro ae ag [] Tryz.func287 rfl (by decide) ?_
 conv=>whnf
 repeat' ((first|refine nI ?_|refine aI ?_|refine tI ?_|refine fI ?_|fail);conv=>whnf)
 refine Dw t0 fd t0 rfl (by dsimp only;omega) ?_
 conv=>whnf
 repeat' ((first|refine nI ?_|refine aI ?_|refine tI ?_|refine fI ?_|refine Ki ?_|fail);conv=>whnf)
 exact⟨25,rfl,rfl⟩
theorem HN (ls:List (List ByteArray)) (hl:ls.length<=10) (h0:0<ls.flatten.length) (hn:ls.flatten.length<=1000):ab Tryz.prog 255 [.sl [] JG ls] (fun u=>u= .sl t0 fd ls.flatten):=by
 have hpart:∀i,(ls.take i).flatten.length<=1000:=fun i=>by
  have:ls.flatten=(ls.take i).flatten++(ls.drop i).flatten:=by rw[<-List.flatten_append,List.take_append_drop]
  rw[this] at hn
  simp only[List.length_append] at hn
  omega
 have hsucc:∀i,i<ls.length->(ls.take (i+1)).flatten=(ls.take i).flatten++ls.getD i []:=fun i hi=>by
  rw[ba [] hi,List.flatten_append];simp
 refine ab.intro ae ag Tryz.func255 rfl (by decide) ?_;(conv=>whnf)
 refine aQ.loopF ae ag (fun i:Nat=>i<=ls.length) (fun i=>[(11, .int .i64 (i:Int)),(3, .int .i64 ((ls.take i).flatten.length:Int))]) (fun _=>[]) (fun i=>ls.length-i) 0 (by omega) ?_;conv=>whnf
 refine⟨sI,?_⟩
 intro i hi
 conv=>whnf
 refine ah ?_ ?_<;>(intro h1;conv=>whnf)
 ·refine nI ?_
  rw[tN]
  have hs:=hsucc i (by omega)
  have h2:=hpart (i+1)
  rw[hs,List.length_append] at h2
  conv=>whnf
  repeat' ((first|refine nI ?_|refine aI ?_|refine tI ?_|refine fI ?_|fail);conv=>whnf)
  refine⟨i+1,?_,by omega,by dsimp only;omega⟩
  dsimp only
  rw[hs,List.length_append]
  exact sI
 ·obtain rfl:i=ls.length:=by omega
  rw[List.take_length]
  refine am.fresh 24 (MJ _ h0 hn) rfl (aa) ?_
  conv=>whnf
  refine aQ.loopF ae ag (fun i:Nat=>i<=ls.length) (fun i=>[(27, .int .i64 (i:Int)),(6, .row 1000 (ls.take i).flatten.length 1),(24, .top)]) (fun i=>[(1000,MH (ls.take i).flatten)]) (fun i=>ls.length-i) 0 (by omega) ?_;conv=>whnf
  refine⟨bn.by_ [(1000, .old 24)] _ 400 rfl (aa) (aa),?_⟩
  intro i hi
  conv=>whnf
  refine ah ?_ ?_<;>(intro h1;conv=>whnf)
  ·refine nI ?_
   rw[tN]
   have hs:=hsucc i (by omega)
   have h2:=hpart (i+1)
   rw[hs,List.length_append] at h2
   conv=>whnf
   refine cz _ rfl (by dsimp only;omega) ?_
   conv=>whnf
   repeat' ((first|refine nI ?_|refine aI ?_|refine tI ?_|refine fI ?_|fail);conv=>whnf)
   refine⟨i+1,?_,by omega,by dsimp only;omega⟩
   dsimp only
   rw[hs,List.length_append]
   exact bn.by_ [(1000, .old 33)] _ 400 rfl (aa) (aa)
  ·obtain rfl:i=ls.length:=by omega
   rw[List.take_length]
   exact⟨rfl,rfl⟩
def oQ (l:List ByteArray):Prop:=∀i,i<l.length->cj (l.getD i t0)/\l.getD i t0∉l.take i
instance (l:List ByteArray):Decidable (oQ l):=inferInstanceAs (Decidable (∀i,i<l.length->_))
def dF (p:an):List ByteArray:=p.states++p.messages++p.values
theorem tj {p:an} (hp:iO p):∀i,((dF p).getD i t0).size<=140737488355328:=by
 intro i
 by_cases hi:i<(dF p).length
 ·have hm:=aB (l:=dF p) t0 hi
  unfold dF at hm
  simp only[List.mem_append] at hm
  rcases hm with (h|h)|h
  ·exact hp.ns.1 _ h
  ·exact hp.ns.2.1 _ h
  ·exact hp.ns.2.2 _ h
 ·rw[gD,List.getElem?_eq_none (by omega)];decide
theorem Kt (p:an) (hp:iO p) (hle:p.states.length<=60/\p.messages.length<=60/\p.values.length<=60) (h0:0<p.states.length):ab Tryz.prog 186 [.agg (aR p)] (fun u=>u= .int .i64 (if oQ (dF p) then 0 else 2)):=by
 have hsz:=tj hp
 have hlen:(dF p).length=p.states.length+p.messages.length+p.values.length:=by simp[dF];omega
 have hfl:[p.states,p.messages,p.values].flatten=dF p:=by simp[dF]
 have hc:=HN [p.states,p.messages,p.values] (by simp) (by rw[hfl];omega) (by rw[hfl];omega)
 rw[hfl] at hc
 refine ab.intro ae ag Tryz.func186 rfl (by decide) ?_;(conv=>whnf)
 refine al rfl ?_
 conv=>whnf
 refine cf [] JG [p.states,p.messages,p.values] rfl ?_
 conv=>whnf
 refine am.hand 12 rfl ?_
 (refine oP (hc) ?_;conv=>whnf)
 refine aQ.loopF ae ag (fun i:Nat=>i<=(dF p).length/\∀j,j<i->cj ((dF p).getD j t0)/\(dF p).getD j t0∉(dF p).take j) (fun i=>[(16, .int .i64 (i:Int)),(12, .top)]) (fun _=>[]) (fun i=>(dF p).length-i) 0 ⟨by omega,fun j hj=>by omega⟩ ?_;conv=>whnf
 refine⟨sI,?_⟩
 rintro i ⟨hi,ha⟩
 conv=>whnf
 refine ah ?_ ?_<;>(intro h1;conv=>whnf)
 ·refine nI ?_
  rw[tN]
  conv=>whnf
  refine dC (fe _ (by have:=hsz i;omega)) (fun _=>?_) (fun _=>?_)<;>(conv=>whnf)
  ·rename_i hv
   refine nI ?_
   rw[tN]
   conv=>whnf
   refine dC (q' _ _ (by simp;omega)) (fun _=>?_) (fun _=>?_)<;>(conv=>whnf)
   ·rename_i hm
    exact⟨ac (by rw[if_neg (fun h:oQ (dF p)=>(h i (by omega)).2 hm)]),rfl⟩
   ·rename_i hm
    repeat' ((first|refine nI ?_|refine aI ?_|refine tI ?_|refine fI ?_|fail);conv=>whnf)
    refine⟨i+1,sI,⟨by omega,fun j hj=>?_⟩,by dsimp only;omega⟩
    by_cases e:j=i
    ·subst e;exact⟨hv,hm⟩
    ·exact ha j (by omega)
  ·rename_i hv
   exact⟨ac (by rw[if_neg (fun h:oQ (dF p)=>hv (h i (by omega)).1)]),rfl⟩
 ·exact⟨ac (by rw[if_pos (show oQ (dF p) from fun j hj=>ha j (by omega))]),rfl⟩
set_option maxHeartbeats 8000000
def iv (p:an):Int:=ci ((List.range p.rules.length).map fun i=>b9 p i (p.rules.getD i ap))
def rc (p:an):Prop:=∀j,j<p.resilience.length->eh (p.resilience.getD j fQ)
instance (p:an):Decidable (rc p):=inferInstanceAs (Decidable (∀j,j<p.resilience.length->_))
def w5 (p:an):Int:=ci [bC p.initial p.states.length,(if p.initial.length=0 then 1 else 0),bC p.leader p.states.length,iv p,(if 3<(ax p.rules).length then 4 else 0)]
def aA (p:an):Int:=
 if¬cj p.name then 2 else if p.topology<1\/4<p.topology\/p.fault<0\/3<p.fault then 1 else if p.states.length=0 then 1
 else if 6<p.states.length\/3<p.messages.length\/3<p.values.length\/4<p.resilience.length\/8<p.rules.length then 4
 else if¬oQ (dF p) then 2
 else if(p.topology≠1/\(0<p.messages.length\/0<p.values.length\/0<p.resilience.length\/p.fault≠0))\/(p.topology=1/\0<p.leader.length) then 1
 else if¬rc p then 4 else w5 p
theorem re {n k:Nat} (h:k<n):(List.range n).getD k 0=k:=by
 rw[gD,List.getElem?_range h];rfl
theorem ca:∀{l:List Int},ci l=0->∀x∈l,x=0
 |[],_,x,hx=>by cases hx
 |a::l,h,x,hx=>by
  by_cases ha:a=0
  ·rw[aq ha] at h
   rcases List.mem_cons.1 hx with rfl|hx
   ·exact ha
   ·exact ca h x hx
  ·rw[ar ha] at h;omega
theorem iw {p:an} {i:Nat} {r:bo} (h:b9 p i r=0):cj r.name/\fR r.kind p.topology/\¬iQ r p.topology/\(0<=r.src/\r.src<p.states.length)/\(0<=r.dst/\r.dst<p.states.length)/\cW p r=0:=by
 unfold b9 at h
 by_cases h1:¬cj r.name\/gQ p.rules i r
 ·rw[if_pos h1] at h;omega
 rw[if_neg h1] at h
 by_cases h2:¬fR r.kind p.topology\/iQ r p.topology
 ·rw[if_pos h2] at h;omega
 rw[if_neg h2] at h
 have hz:=ca h
 have b1:=hz (cM r.src p.states.length) (by simp)
 have b2:=hz (cM r.dst p.states.length) (by simp)
 unfold cM at b1 b2
 refine⟨Classical.not_not.1 fun e=>h1 (.inl e),Classical.not_not.1 fun e=>h2 (.inl e),fun e=>h2 (.inr e),?_,?_,hz _ (by simp)⟩
 ·split at b1<;>omega
 ·split at b2<;>omega
theorem rf {m:Int} {l:List ez} (h:aK m l=0):l.length<=2:=by
 unfold aK at h
 split at h
 ·omega
 ·split at h<;>omega
theorem w6 {p:an} {i:Nat} {r:bo} (h:b9 p i r=0):r.guards.length<=2:=by
 obtain⟨_,_,h3,_,_,h6⟩:=iw h
 by_cases k:r.kind=1
 ·unfold cW at h6
  rw[if_pos k] at h6
  exact rf (ca h6 (aK p.messages.length r.guards) (by simp))
 ·unfold iQ at h3;omega
theorem JH {p:an} (h:iv p=0) (hl:p.rules.length<=8):Mf p:=by
 refine⟨by omega,fun j hj=>?_⟩
 have:=w6 (ca h _ (List.mem_map.2 ⟨j,List.mem_range.2 hj,rfl⟩))
 omega
theorem c9 (p:an) (hp:iO p):ab Tryz.prog 99 [.agg (aR p)] (fun u=>u= .int .i64 (aA p)):=by
 have hle:=jh hp
 have he:=aA.eq_1 p
 refine ab.intro ae ag Tryz.func99 rfl (by decide) ?_;(conv=>whnf)
 refine al rfl ?_
 conv=>whnf
 refine ah ?_ ?_<;>(intro ht;conv=>whnf)
 all_goals
  refine dC (fe p.name (by omega)) (fun _=>?_) (fun _=>?_)<;>(conv=>whnf)
  case refine_2=>rename_i hv;rw[if_pos hv] at he;exact⟨ac he.symm,rfl⟩
  rename_i hv
  rw[if_neg (fun h=>h hv)] at he
  by_cases hA:p.topology<1\/4<p.topology\/p.fault<0\/3<p.fault
  ·rw[if_pos hA] at he
   repeat' ((first|refine nI ?_|refine aI ?_|refine fb trivial (by omega) ?_|refine fv trivial (by omega) ?_|refine dI ?_|refine dR ?_|refine dP ?_|refine al rfl ?_|refine pI _ rfl ?_|refine aw _ rfl ?_|refine tI ?_|refine fI ?_|refine ah (fun _=>?_) (fun _=>?_))<;>conv=>whnf)
   all_goals exact⟨ac he.symm,rfl⟩
  rw[if_neg hA] at he
  by_cases h0:p.states.length=0
  ·rw[if_pos h0] at he
   repeat' ((first|refine nI ?_|refine aI ?_|refine tI ?_|refine fI ?_|fail);conv=>whnf)
   exact⟨ac he.symm,rfl⟩
  rw[if_neg h0] at he
  by_cases hB:6<p.states.length\/3<p.messages.length\/3<p.values.length\/4<p.resilience.length\/8<p.rules.length
  ·rw[if_pos hB] at he
   repeat' ((first|refine nI ?_|refine aI ?_|refine fb trivial (by omega) ?_|refine fv trivial (by omega) ?_|refine dI ?_|refine dR ?_|refine dP ?_|refine al rfl ?_|refine pI _ rfl ?_|refine aw _ rfl ?_|refine tI ?_|refine fI ?_|refine ah (fun _=>?_) (fun _=>?_))<;>conv=>whnf)
   all_goals exact⟨ac he.symm,rfl⟩
  rw[if_neg hB] at he
  repeat' ((first|refine nI ?_|refine aI ?_|refine tI ?_|refine fI ?_|fail);conv=>whnf)
  (refine oP (Kt p hp (by omega) (by omega)) ?_;conv=>whnf)
  by_cases hN:oQ (dF p)
  case neg=>
   rw[if_pos hN] at he
   rw[if_neg hN]
   repeat' ((first|refine nI ?_|refine aI ?_|refine tI ?_|refine fI ?_|fail);conv=>whnf)
   exact⟨ac he.symm,rfl⟩
  rw[if_neg (fun h=>h hN)] at he
  rw[if_pos hN]
  by_cases hC:(p.topology≠1/\(0<p.messages.length\/0<p.values.length\/0<p.resilience.length\/p.fault≠0))\/(p.topology=1/\0<p.leader.length)
  ·rw[if_pos hC] at he
   repeat' ((first|refine nI ?_|refine aI ?_|refine fb trivial (by omega) ?_|refine fv trivial (by omega) ?_|refine dI ?_|refine dR ?_|refine dP ?_|refine al rfl ?_|refine pI _ rfl ?_|refine aw _ rfl ?_|refine tI ?_|refine fI ?_|refine ah (fun _=>?_) (fun _=>?_))<;>conv=>whnf)
   all_goals exact⟨ac he.symm,rfl⟩
  rw[if_neg hC] at he
  repeat' ((first|refine nI ?_|refine aI ?_|refine tI ?_|refine fI ?_|fail);conv=>whnf)
  refine aQ.loopF ae ag (fun k:Nat=>k<=p.resilience.length/\∀j,j<k->eh (p.resilience.getD j fQ)) (fun k=>[(113, .int .i64 (k:Int))]) (fun _=>[]) (fun k=>p.resilience.length-k) 0 ⟨by omega,fun j hj=>by omega⟩ ?_;conv=>whnf
  refine⟨sI,?_⟩
  rintro k ⟨hk,ha⟩
  conv=>whnf
  refine ah ?_ ?_<;>(intro h1;conv=>whnf)
  ·refine nI ?_
   rw[tN]
   conv=>whnf
   refine dC (np (p.resilience.getD k fQ)) (fun _=>?_) (fun _=>?_)<;>(conv=>whnf)
   ·rename_i hb
    repeat' ((first|refine nI ?_|refine aI ?_|refine tI ?_|refine fI ?_|fail);conv=>whnf)
    refine⟨k+1,sI,⟨by omega,fun j hj=>?_⟩,by dsimp only;omega⟩
    by_cases e:j=k
    ·subst e;exact hb
    ·exact ha j (by omega)
   ·rename_i hb
    rw[if_pos (fun h:rc p=>hb (h k (by omega)))] at he
    exact⟨ac he.symm,rfl⟩
  rw[if_neg (fun h=>h (show rc p from fun j hj=>ha j (by omega))),w5] at he
  refine dI ?_
  conv=>whnf
  (refine oC (mJ p.initial _ (by omega)) ?_;conv=>whnf)
  have hf:∀x:Int,x=(if p.initial.length=0 then 1 else 0)->aA p=if ci [bC p.initial p.states.length,x,bC p.leader p.states.length]≠0 then ci [bC p.initial p.states.length,x,bC p.leader p.states.length] else ci [iv p,(if 3<(ax p.rules).length then 4 else 0)]:=by
   rintro x rfl
   rw[he,show[bC p.initial p.states.length,(if p.initial.length=0 then(1:Int) else 0),bC p.leader p.states.length,iv p,(if 3<(ax p.rules).length then 4 else 0)]=[bC p.initial p.states.length,(if p.initial.length=0 then(1:Int) else 0),bC p.leader p.states.length]++[iv p,(if 3<(ax p.rules).length then 4 else 0)] from rfl,Ep]
  clear he
  by_cases hI:p.initial.length=0
  ·have hx:=hf 1 (by rw[if_pos hI])
   repeat' ((first|refine nI ?_|refine aI ?_|refine tI ?_|refine fI ?_|fail);conv=>whnf)
   (refine oC (i8 1) ?_;conv=>whnf)
   (refine oC (mJ p.leader _ (by omega)) ?_;conv=>whnf)
   refine dA ?_
   conv=>whnf
   (refine oC (cJ _ (by simp)) ?_;conv=>whnf)
   refine ah ?_ ?_<;>(intro h1;conv=>whnf)
   ·rw[if_pos h1] at hx;exact⟨ac hx.symm,rfl⟩
   ·exfalso
    apply h1
    simp only[ci]
    (repeat' split)<;>omega
  have hx:=hf 0 (by rw[if_neg hI])
  repeat' ((first|refine nI ?_|refine aI ?_|refine tI ?_|refine fI ?_|fail);conv=>whnf)
  (refine oC (gX 1) ?_;conv=>whnf)
  (refine oC (mJ p.leader _ (by omega)) ?_;conv=>whnf)
  refine dA ?_
  conv=>whnf
  (refine oC (cJ _ (by simp)) ?_;conv=>whnf)
  refine ah ?_ ?_<;>(intro h1;conv=>whnf)
  ·rw[if_pos h1] at hx;exact⟨ac hx.symm,rfl⟩
  rw[if_neg h1] at hx
  refine aQ.loopF ae ag (fun k:Nat=>k<=p.rules.length/\iv p=ci (((List.range p.rules.length).drop k).map fun i=>b9 p i (p.rules.getD i ap))) (fun k=>[(142, .int .i64 (k:Int))]) (fun _=>[]) (fun k=>p.rules.length-k) 0 ⟨by omega,rfl⟩ ?_;conv=>whnf
  refine⟨sI,?_⟩
  rintro k ⟨hk,hr⟩
  conv=>whnf
  refine ah ?_ ?_<;>(intro h2;conv=>whnf)
  ·rw[bW _ 0 (by simp;omega),re (by omega)] at hr
   (refine oP (yK p k hp (by omega)) ?_;conv=>whnf)
   refine ah ?_ ?_<;>(intro h3;conv=>whnf)
   ·rw[if_pos h3] at hr
    rw[hr,ar h3] at hx
    exact⟨ac hx.symm,rfl⟩
   ·rw[if_neg h3] at hr
    repeat' ((first|refine nI ?_|refine aI ?_|refine tI ?_|refine fI ?_|fail);conv=>whnf)
    exact⟨k+1,sI,⟨by omega,hr⟩,by dsimp only;omega⟩
  obtain rfl:k=p.rules.length:=by omega
  rw[List.drop_of_length_le (by simp)] at hr
  rw[aq hr] at hx
  (refine oP (pA p (JH (show iv p=0 from hr) (by omega))) ?_;conv=>whnf)
  refine ah ?_ ?_<;>(intro h3;conv=>whnf)
  ·rw[if_pos (by omega)] at hx
   (refine oP (i8 4) ?_;conv=>whnf)
   exact⟨ac hx.symm,rfl⟩
  ·rw[if_neg (by omega)] at hx
   (refine oP (gX 4) ?_;conv=>whnf)
   exact⟨ac hx.symm,rfl⟩
theorem oT (p:an) (hp:iO p):ab Tryz.prog 113 [.agg (aR p)] (fun u=>u= .int .i64 (aA p)):=by
 have hle:=jh hp
 have he:=aA.eq_1 p
 have hsz:=tj hp
 have hlen:(dF p).length=p.states.length+p.messages.length+p.values.length:=by simp[dF];omega
 refine ab.intro ae ag Tryz.func113 rfl (by decide) ?_;(conv=>whnf)
 refine al rfl ?_
 conv=>whnf
 refine dC (kc p.name (by omega)) (fun _=>?_) (fun _=>?_)<;>(conv=>whnf)
 case refine_2=>rename_i hv;rw[if_pos hv] at he;exact⟨ac he.symm,rfl⟩
 rename_i hv
 rw[if_neg (fun h=>h hv)] at he
 refine dC (ay _ _ _) (fun _=>?_) (fun _=>?_)<;>(conv=>whnf)
 case refine_2=>rename_i h;rw[if_pos (by omega)] at he;exact⟨ac he.symm,rfl⟩
 rename_i hA1
 refine dC (ay _ _ _) (fun _=>?_) (fun _=>?_)<;>(conv=>whnf)
 case refine_2=>rename_i h;rw[if_pos (by omega)] at he;exact⟨ac he.symm,rfl⟩
 rename_i hA2
 rw[if_neg (by omega)] at he
 by_cases h0:p.states.length=0
 ·rw[if_pos h0] at he
  repeat' ((first|refine nI ?_|refine aI ?_|refine tI ?_|refine fI ?_|fail);conv=>whnf)
  exact⟨ac he.symm,rfl⟩
 rw[if_neg h0] at he
 by_cases hB:6<p.states.length\/3<p.messages.length\/3<p.values.length\/4<p.resilience.length\/8<p.rules.length
 ·rw[if_pos hB] at he
  repeat' ((first|refine nI ?_|refine aI ?_|refine fb trivial (by omega) ?_|refine fv trivial (by omega) ?_|refine dI ?_|refine dR ?_|refine dP ?_|refine al rfl ?_|refine pI _ rfl ?_|refine aw _ rfl ?_|refine tI ?_|refine fI ?_|refine ah (fun _=>?_) (fun _=>?_))<;>conv=>whnf)
  all_goals exact⟨ac he.symm,rfl⟩
 rw[if_neg hB] at he
 repeat' ((first|refine nI ?_|refine aI ?_|refine tI ?_|refine fI ?_|fail);conv=>whnf)
 refine dP ?_
 conv=>whnf
 refine cf t0 fd [] rfl ?_
 conv=>whnf
 refine fl ?_
 conv=>whnf
 refine cz _ rfl (by dsimp only;simp only[List.length_nil];omega) ?_
 conv=>whnf
 refine cz _ rfl (by simp only[List.length_append,List.length_nil];omega) ?_
 conv=>whnf
 refine cz _ rfl (by simp only[List.length_append,List.length_nil];omega) ?_
 conv=>whnf
 refine aQ.loopF ae ag (fun i:Nat=>i<=(dF p).length/\∀j,j<i->cj ((dF p).getD j t0)/\(dF p).getD j t0∉(dF p).take j) (fun i=>[(4, .int .i64 (i:Int)),(3, .sl t0 fd (dF p)),(56, .top),(59, .top),(62, .top),(65, .top)]) (fun _=>[]) (fun i=>(dF p).length-i) 0 ⟨by omega,fun j hj=>by omega⟩ ?_;conv=>whnf
 refine⟨bn.leak 65 rfl (bn.by_ [] [] 400 rfl trivial (aa)),?_⟩
 rintro i ⟨hi,ha⟩
 conv=>whnf
 refine ah ?_ ?_<;>(intro h1;conv=>whnf)
 ·refine dI ?_
  conv=>whnf
  refine nI ?_
  rw[tN]
  conv=>whnf
  refine dD (kc _ (by have:=hsz i;omega)) (fun _=>?_) (fun _=>?_)<;>(conv=>whnf)
  ·rename_i hv
   refine nI ?_
   rw[tN]
   conv=>whnf
   refine nI ?_
   rw[tN]
   conv=>whnf
   refine dD (wU _ _ (by simp;omega)) (fun _=>?_) (fun _=>?_)<;>(conv=>whnf)
   ·rename_i hm
    rw[if_pos (fun h:oQ (dF p)=>(h i (by omega)).2 hm)] at he
    exact⟨ac he.symm,rfl⟩
   ·rename_i hm
    repeat' ((first|refine nI ?_|refine aI ?_|refine tI ?_|refine fI ?_|fail);conv=>whnf)
    refine⟨i+1,sI,⟨by omega,fun j hj=>?_⟩,by dsimp only;omega⟩
    by_cases e:j=i
    ·subst e;exact⟨hv,hm⟩
    ·exact ha j (by omega)
  ·rename_i hv
   rw[if_pos (fun h:oQ (dF p)=>hv (h i (by omega)).1)] at he
   exact⟨ac he.symm,rfl⟩
 rw[if_neg (fun h=>h (show oQ (dF p) from fun j hj=>ha j (by omega)))] at he
 by_cases hC:(p.topology≠1/\(0<p.messages.length\/0<p.values.length\/0<p.resilience.length\/p.fault≠0))\/(p.topology=1/\0<p.leader.length)
 ·rw[if_pos hC] at he
  repeat' ((first|refine nI ?_|refine aI ?_|refine fb trivial (by omega) ?_|refine fv trivial (by omega) ?_|refine dI ?_|refine dR ?_|refine dP ?_|refine al rfl ?_|refine pI _ rfl ?_|refine aw _ rfl ?_|refine tI ?_|refine fI ?_|refine ah (fun _=>?_) (fun _=>?_))<;>conv=>whnf)
  all_goals exact⟨ac he.symm,rfl⟩
 rw[if_neg hC] at he
 refine ah ?_ ?_<;>(intro ht;conv=>whnf)
 all_goals
  repeat' ((first|refine nI ?_|refine aI ?_|refine tI ?_|refine fI ?_|fail);conv=>whnf)
  refine aQ.loopF ae ag (fun k:Nat=>k<=p.resilience.length/\∀j,j<k->eh (p.resilience.getD j fQ)) (fun k=>[(5, .int .i64 (k:Int))]) (fun _=>[]) (fun k=>p.resilience.length-k) 0 ⟨by omega,fun j hj=>by omega⟩ ?_;conv=>whnf
  refine⟨sI,?_⟩
  rintro k ⟨hk,ha⟩
  conv=>whnf
  refine ah ?_ ?_<;>(intro h1;conv=>whnf)
  ·refine nI ?_
   rw[tN]
   conv=>whnf
   refine dC (Cb (p.resilience.getD k fQ)) (fun _=>?_) (fun _=>?_)<;>(conv=>whnf)
   ·rename_i hb
    repeat' ((first|refine nI ?_|refine aI ?_|refine tI ?_|refine fI ?_|fail);conv=>whnf)
    refine⟨k+1,sI,⟨by omega,fun j hj=>?_⟩,by dsimp only;omega⟩
    by_cases e:j=k
    ·subst e;exact hb
    ·exact ha j (by omega)
   ·rename_i hb
    rw[if_pos (fun h:rc p=>hb (h k (by omega)))] at he
    exact⟨ac he.symm,rfl⟩
  rw[if_neg (fun h=>h (show rc p from fun j hj=>ha j (by omega))),w5] at he
  (refine oP (bl p.initial _ (by omega) (by omega)) ?_;conv=>whnf)
  refine ah ?_ ?_<;>(intro hx;conv=>whnf)
  ·exact⟨ac (by rw[he,ar hx]),rfl⟩
  rw[aq (by omega)] at he
  refine ah ?_ ?_<;>(intro hx;conv=>whnf)
  ·exact⟨ac (by rw[he,if_pos (by omega),ar (by decide)]),rfl⟩
  rw[if_neg (by omega),aq rfl] at he
  (refine oP (bl p.leader _ (by omega) (by omega)) ?_;conv=>whnf)
  refine ah ?_ ?_<;>(intro hx;conv=>whnf)
  ·exact⟨ac (by rw[he,ar hx]),rfl⟩
  rw[aq (by omega)] at he
  refine aQ.loopF ae ag (fun k:Nat=>k<=p.rules.length/\iv p=ci (((List.range p.rules.length).drop k).map fun i=>b9 p i (p.rules.getD i ap))) (fun k=>[(8, .int .i64 (k:Int))]) (fun _=>[]) (fun k=>p.rules.length-k) 0 ⟨by omega,rfl⟩ ?_;conv=>whnf
  refine⟨sI,?_⟩
  rintro k ⟨hk,hr⟩
  conv=>whnf
  refine ah ?_ ?_<;>(intro h2;conv=>whnf)
  ·rw[bW _ 0 (by simp;omega),re (by omega)] at hr
   (refine oP (MG p k hp (by omega)) ?_;conv=>whnf)
   refine ah ?_ ?_<;>(intro h3;conv=>whnf)
   ·rw[if_pos h3] at hr
    rw[hr,ar h3] at he
    exact⟨ac he.symm,rfl⟩
   ·rw[if_neg h3] at hr
    repeat' ((first|refine nI ?_|refine aI ?_|refine tI ?_|refine fI ?_|fail);conv=>whnf)
    exact⟨k+1,sI,⟨by omega,hr⟩,by dsimp only;omega⟩
  obtain rfl:k=p.rules.length:=by omega
  rw[List.drop_of_length_le (by simp)] at hr
  rw[aq hr] at he
  (refine oP (th p (JH (show iv p=0 from hr) (by omega))) ?_;conv=>whnf)
  refine ah ?_ ?_<;>(intro h3;conv=>whnf)
  ·rw[if_pos (by omega)] at he
   exact⟨ac he.symm,rfl⟩
  ·rw[if_neg (by omega)] at he
   exact⟨ac he.symm,rfl⟩
structure aJ where
 n:Int
 t:Int
 f:Int
def cq (s:aJ):List AV:=[.int .i64 s.n, .int .i64 s.t, .int .i64 s.f]
def fX (l:kG) (s:aJ):Int:=l.c+l.n*s.n+l.t*s.t+l.f*s.f
def JI (s:aJ):Prop:=(0<=s.n/\s.n<=1048576)/\(0<=s.t/\s.t<=1048576)/\(0<=s.f/\s.f<=1048576)
theorem Er {a b:Int} (ha:cD a) (hb:0<=b/\b<=1048576):-104857600<=a*b/\a*b<=104857600:=by
 unfold cD at ha
 have h1:a*b<=100*b:=Int.mul_le_mul_of_nonneg_right ha.2 hb.1
 have h2:-100*b<=a*b:=Int.mul_le_mul_of_nonneg_right ha.1 hb.1
 omega
theorem HO {l:kG} {s:aJ} (hl:eh l) (hs:JI s):(-104857600<=l.n*s.n/\l.n*s.n<=104857600)/\(-104857600<=l.t*s.t/\l.t*s.t<=104857600)/\(-104857600<=l.f*s.f/\l.f*s.f<=104857600)/\(-100<=l.c/\l.c<=100):=
 ⟨Er hl.2.1 hs.1,Er hl.2.2.1 hs.2.1,Er hl.2.2.2 hs.2.2,hl.1⟩
theorem oU (l:kG) (s:aJ) (hl:eh l) (hs:JI s):ab Tryz.prog 173 [.agg (cI l), .agg (cq s)] (fun u=>u= .tup [.int .i64 (fX l s), .int .i64 0]):=by
 obtain⟨b1,b2,b3,b4⟩:=HO hl hs
 refine ab.intro ae ag Tryz.func173 rfl (by decide) ?_;(conv=>whnf)
 refine al rfl ?_
 conv=>whnf
 refine al rfl ?_
 conv=>whnf
 refine dC (np l) (fun _=>?_) (fun _=>?_)<;>(conv=>whnf)
 case refine_2=>rename_i h;exact absurd hl h
 refine aQ.loopF ae ag (fun k:Nat=>k<=3) (fun k=>[(19, .int .i64 (k:Int))]) (fun _=>[(17, .row 3 0 ao [s.n,s.t,s.f])]) (fun k=>3-k) 0 (by omega) ?_;conv=>whnf
 refine⟨sI,?_⟩
 intro k hk
 conv=>whnf
 refine ah ?_ ?_<;>(intro h1;conv=>whnf)
 ·refine nI ?_
  rw[tN]
  have hx:0<=[s.n,s.t,s.f].getD k 0/\[s.n,s.t,s.f].getD k 0<=1048576:=by
   obtain⟨c1,c2,c3⟩:=hs
   have:k=0\/k=1\/k=2:=by omega
   rcases this with rfl|rfl|rfl
   ·exact c1
   ·exact c2
   ·exact c3
  conv=>whnf
  repeat' ((first|refine nI ?_|refine aI ?_|refine tI ?_|refine fI ?_|fail);conv=>whnf)
  exact⟨k+1,sI,by omega,by dsimp only;omega⟩
 ·repeat' ((first|refine nI ?_|refine aI ?_|refine tI ?_|refine fI ?_|fail);conv=>whnf)
  exact⟨rfl,rfl⟩
def rg (p:an) (s:aJ):Prop:=(1<=s.n/\s.n<=1048576)/\(0<=s.t/\s.t<=s.n)/\(0<=s.f/\s.f<=s.n)
def w7 (p:an) (s:aJ):Prop:=¬(p.fault=0/\(s.t≠0\/s.f≠0))
def Ce (p:an) (s:aJ):Prop:=¬(p.topology=4/\s.n.tmod 2=0)
def MK (p:an) (s:aJ):Prop:=∀j,j<p.resilience.length->0<=fX (p.resilience.getD j fQ) s
def rh (p:an) (s:aJ):Prop:=rg p s/\w7 p s/\Ce p s/\MK p s
instance (p:an) (s:aJ):Decidable (rg p s):=inferInstanceAs (Decidable (_/\_))
instance (p:an) (s:aJ):Decidable (w7 p s):=inferInstanceAs (Decidable (¬_))
instance (p:an) (s:aJ):Decidable (Ce p s):=inferInstanceAs (Decidable (¬_))
instance (p:an) (s:aJ):Decidable (MK p s):=inferInstanceAs (Decidable (∀j,j<p.resilience.length->_))
instance (p:an) (s:aJ):Decidable (rh p s):=inferInstanceAs (Decidable (_/\_))
theorem HP {p:an} {s:aJ} (h:rg p s):JI s:=by unfold rg at h;unfold JI;omega
theorem NP (p:an) (s:aJ) (hp:¬dX p) (hr:rc p):ab Tryz.prog 254 [.agg (aR p), .agg (cq s)] (fun u=>u= .bool (decide (rh p s))):=by
 have hle:=bL hp
 refine ab.intro ae ag Tryz.func254 rfl (by decide) ?_;(conv=>whnf)
 refine al rfl ?_
 conv=>whnf
 refine al rfl ?_
 conv=>whnf
 by_cases hA:rg p s
 case neg=>
  have hno:¬rh p s:=fun h=>hA h.1
  unfold rg at hA
  repeat' ((first|refine nI ?_|refine aI ?_|refine fb trivial (by omega) ?_|refine fv trivial (by omega) ?_|refine dI ?_|refine dR ?_|refine dP ?_|refine al rfl ?_|refine pI _ rfl ?_|refine aw _ rfl ?_|refine tI ?_|refine fI ?_|refine ah (fun _=>?_) (fun _=>?_))<;>conv=>whnf)
  all_goals exact⟨au hno,rfl⟩
 have hz:=HP hA
 have hA2:=hA
 unfold rg at hA2
 by_cases hC:w7 p s
 case neg=>
  have hno:¬rh p s:=fun h=>hC h.2.1
  unfold w7 at hC
  repeat' ((first|refine nI ?_|refine aI ?_|refine fb trivial (by omega) ?_|refine fv trivial (by omega) ?_|refine dI ?_|refine dR ?_|refine dP ?_|refine al rfl ?_|refine pI _ rfl ?_|refine aw _ rfl ?_|refine tI ?_|refine fI ?_|refine ah (fun _=>?_) (fun _=>?_))<;>conv=>whnf)
  all_goals exact⟨au hno,rfl⟩
 have hC2:=hC
 unfold w7 at hC2
 by_cases hD:Ce p s
 case neg=>
  have hno:¬rh p s:=fun h=>hD h.2.2.1
  unfold Ce at hD
  repeat' ((first|refine nI ?_|refine aI ?_|refine fb trivial (by omega) ?_|refine fv trivial (by omega) ?_|refine dI ?_|refine dR ?_|refine dP ?_|refine al rfl ?_|refine pI _ rfl ?_|refine aw _ rfl ?_|refine tI ?_|refine fI ?_|refine ah (fun _=>?_) (fun _=>?_))<;>conv=>whnf)
  all_goals exact⟨au hno,rfl⟩
 have hD2:=hD
 unfold Ce at hD2
 repeat' ((first|refine nI ?_|refine aI ?_|refine fb trivial (by omega) ?_|refine fv trivial (by omega) ?_|refine dI ?_|refine dR ?_|refine dP ?_|refine al rfl ?_|refine pI _ rfl ?_|refine aw _ rfl ?_|refine tI ?_|refine fI ?_|refine ah (fun _=>?_) (fun _=>?_))<;>conv=>whnf)
 all_goals
  refine aQ.loopF ae ag (fun k:Nat=>k<=p.resilience.length/\∀j,j<k->0<=fX (p.resilience.getD j fQ) s) (fun k=>[(69, .int .i64 (k:Int))]) (fun _=>[]) (fun k=>p.resilience.length-k) 0 ⟨by omega,fun j hj=>by omega⟩ ?_;conv=>whnf
  refine⟨sI,?_⟩
  rintro k ⟨hk,ha⟩
  conv=>whnf
  refine ah ?_ ?_<;>(intro h1;conv=>whnf)
  ·refine nI ?_
   rw[tN]
   conv=>whnf
   (refine oP (oU (p.resilience.getD k fQ) s (hr k (by omega)) hz) ?_;conv=>whnf)
   refine fP (by decide) ?_
   conv=>whnf
   refine ah ?_ ?_<;>(intro h2;conv=>whnf)
   ·exact⟨au (fun h=>by have:=h.2.2.2 k (by omega);omega),rfl⟩
   ·repeat' ((first|refine nI ?_|refine aI ?_|refine tI ?_|refine fI ?_|fail);conv=>whnf)
    refine⟨k+1,sI,⟨by omega,fun j hj=>?_⟩,by dsimp only;omega⟩
    by_cases e:j=k
    ·subst e;omega
    ·exact ha j (by omega)
  ·exact⟨aH ⟨hA,hC,hD,fun j hj=>ha j (by omega)⟩,rfl⟩
theorem yL {p:an} (h:aA p=0):rc p:=by
 unfold aA at h
 refine Classical.byContradiction fun hn=>?_
 (repeat' split at h)<;>first|omega|exact absurd ‹¬¬rc p› (fun hh=>hh hn)
def cr (p:an) (s:aJ):Int:=if aA p≠0 then aA p else if¬rh p s then 8 else if 8<s.n then 4 else 0
theorem lp (p:an) (s:aJ) (hp:¬dX p) (hv:aA p=0):ab Tryz.prog 182 [.agg (aR p), .agg (cq s)] (fun u=>u= .bool (decide (rh p s))):=by
 refine ab.intro ae ag Tryz.func182 rfl (by decide) ?_;(conv=>whnf)
 refine al rfl ?_
 conv=>whnf
 refine al rfl ?_
 conv=>whnf
 (refine oP (c9 p (lj hp)) ?_;conv=>whnf)
 refine cC hv ?_
 conv=>whnf
 refine dC (NP p s hp (yL hv)) (fun _=>?_) (fun _=>?_)<;>(conv=>whnf)
 ·rename_i h;exact⟨aH h,rfl⟩
 ·rename_i h;exact⟨au h,rfl⟩
theorem rj (p:an) (s:aJ) (hp:¬dX p):ab Tryz.prog 94 [.agg (aR p), .agg (cq s)] (fun u=>u= .int .i64 (cr p s)):=by
 refine ab.intro ae ag Tryz.func94 rfl (by decide) ?_;(conv=>whnf)
 refine al rfl ?_
 conv=>whnf
 refine al rfl ?_
 conv=>whnf
 (refine oP (c9 p (lj hp)) ?_;conv=>whnf)
 refine ah ?_ ?_<;>(intro h1;conv=>whnf)
 ·(refine oP (c9 p (lj hp)) ?_;conv=>whnf)
  exact⟨ac (by rw[cr,if_pos h1]),rfl⟩
 have h1:aA p=0:=by omega
 refine dC (lp p s hp h1) (fun _=>?_) (fun _=>?_)<;>(conv=>whnf)
 ·rename_i h2
  refine ah ?_ ?_<;>(intro h3;conv=>whnf)
  ·exact⟨ac (by rw[cr,if_neg (by omega),if_neg (fun h=>h h2),if_pos h3]),rfl⟩
  ·exact⟨ac (by rw[cr,if_neg (by omega),if_neg (fun h=>h h2),if_neg h3]),rfl⟩
 ·rename_i h2
  exact⟨ac (by rw[cr,if_neg (by omega),if_pos h2]),rfl⟩
theorem iy {p:an} {s:aJ} (h:cr p s=0):aA p=0/\rh p s/\1<=s.n/\s.n<=8/\0<=s.t/\s.t<=s.n/\0<=s.f/\s.f<=s.n:=by
 unfold cr at h
 split at h
 ·omega
 ·rename_i h1
  split at h
  ·omega
  ·rename_i h2
   split at h
   ·omega
   ·have h2:rh p s:=Classical.byContradiction h2
    have:=h2.1
    unfold rg at this
    exact⟨by omega,h2,by omega⟩
def gk (p:an) (s:aJ):Int:=if p.fault=3 then s.n-s.f else s.n
theorem w8 (p:an) (s:aJ) (h:0<=s.n/\s.n<=1048576/\0<=s.f/\s.f<=1048576):ab Tryz.prog 184 [.agg (aR p), .agg (cq s)] (fun u=>u= .int .i64 (gk p s)):=by
 refine ab.intro ae ag Tryz.func184 rfl (by decide) ?_;(conv=>whnf)
 refine al rfl ?_
 conv=>whnf
 refine al rfl ?_
 conv=>whnf
 repeat' ((first|refine nI ?_|refine aI ?_|refine fb trivial (by omega) ?_|refine fv trivial (by omega) ?_|refine dI ?_|refine dR ?_|refine dP ?_|refine al rfl ?_|refine pI _ rfl ?_|refine aw _ rfl ?_|refine tI ?_|refine fI ?_|refine ah (fun _=>?_) (fun _=>?_))<;>conv=>whnf)
 ·rename_i h3;exact⟨ac (by rw[gk,if_pos h3]),rfl⟩
 ·rename_i h3;exact⟨ac (by rw[gk,if_neg h3]),rfl⟩
end Go.Proofs.YtekmminpfhacpaaGreatDoor
