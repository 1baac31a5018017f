import Derived.Test.YtblcpnmnibcbbaaGreatDoorFnT
set_option linter.unusedVariables false
set_option linter.unusedSimpArgs false
namespace Go.Proofs.YtblcpnmnibcbbaaGreatDoor
set_option maxRecDepth 100000
set_option maxHeartbeats 4000000
def HD (l:List ByteArray):bj:=.row 9 t0 gU l
def Ff (l:List ByteArray):List AV:=[.sl t0 gU l]
theorem HE (n:Nat) (h0:0<n) (hn:n<=1000):ar Tryz.prog 185 [.nilsl, .int .i64 (n:Int)] (ah.ofL []) (fun u M=>∃ℓ0,u= .row ℓ0 0 1/\M ℓ0=some (HD [])):=by
 refine ar.intro ab ac [] Tryz.func185 rfl (by decide) ?_
 conv=>whnf
 repeat' ((first|refine nI ?_|refine aI ?_|refine tI ?_|refine fI ?_|fail);conv=>whnf)
 refine yv t0 gU t0 rfl (by dsimp only;omega) ?_
 conv=>whnf
 repeat' ((first|refine nI ?_|refine aI ?_|refine tI ?_|refine fI ?_|refine FG ?_|fail);conv=>whnf)
 exact⟨25,rfl,rfl⟩
theorem Ec (ls:List (List ByteArray)) (hl:ls.length<=10) (h0:0<ls.flatten.length) (hn:ls.flatten.length<=1000):aa Tryz.prog 159 [.sl [] Ff ls] (fun u=>u= .sl t0 gU ls.flatten):=by
 have hpart:∀i,(ls.take i).flatten.length<=1000:=fun i=>by
  have:ls.flatten=(ls.take i).flatten++(ls.drop i).flatten:=by rw[<-List.flatten_append,List.take_append_drop]
  rw[this] at hn
  simp only[List.length_append] at hn
  omega
 have hsucc:∀i,i<ls.length->(ls.take (i+1)).flatten=(ls.take i).flatten++ls.getD i []:=fun i hi=>by
  rw[dX [] hi,List.flatten_append];simp
 refine aa.intro ab ac Tryz.func159 rfl (by decide) ?_;(conv=>whnf)
 refine aR.loopF ab ac (fun i:Nat=>i<=ls.length) (fun i=>[(11, .int .i64 (i:Int)),(3, .int .i64 ((ls.take i).flatten.length:Int))]) (fun _=>[]) (fun i=>ls.length-i) 0 (by omega) ?_;conv=>whnf
 refine⟨sI,?_⟩
 intro i hi
 conv=>whnf
 refine ag ?_ ?_<;>(intro h1;conv=>whnf)
 ·refine nI ?_
  rw[tN]
  have hs:=hsucc i (by omega)
  have h2:=hpart (i+1)
  rw[hs,List.length_append] at h2
  conv=>whnf
  repeat' ((first|refine nI ?_|refine aI ?_|refine tI ?_|refine fI ?_|fail);conv=>whnf)
  refine⟨i+1,?_,by omega,by dsimp only;omega⟩
  dsimp only
  rw[hs,List.length_append]
  exact sI
 ·obtain rfl:i=ls.length:=by omega
  rw[List.take_length]
  refine ar.fresh 24 (HE _ h0 hn) rfl (ai) ?_
  conv=>whnf
  refine aR.loopF ab ac (fun i:Nat=>i<=ls.length) (fun i=>[(27, .int .i64 (i:Int)),(6, .row 1000 (ls.take i).flatten.length 1),(24, .top)]) (fun i=>[(1000,HD (ls.take i).flatten)]) (fun i=>ls.length-i) 0 (by omega) ?_;conv=>whnf
  refine⟨bE.by_ [(1000, .old 24)] _ 400 rfl (ai) (ai),?_⟩
  intro i hi
  conv=>whnf
  refine ag ?_ ?_<;>(intro h1;conv=>whnf)
  ·refine nI ?_
   rw[tN]
   have hs:=hsucc i (by omega)
   have h2:=hpart (i+1)
   rw[hs,List.length_append] at h2
   conv=>whnf
   refine eC _ rfl (by dsimp only;omega) ?_
   conv=>whnf
   repeat' ((first|refine nI ?_|refine aI ?_|refine tI ?_|refine fI ?_|fail);conv=>whnf)
   refine⟨i+1,?_,by omega,by dsimp only;omega⟩
   dsimp only
   rw[hs,List.length_append]
   exact bE.by_ [(1000, .old 33)] _ 400 rfl (ai) (ai)
  ·obtain rfl:i=ls.length:=by omega
   rw[List.take_length]
   exact⟨rfl,rfl⟩
def qO (l:List ByteArray):Prop:=∀i,i<l.length->cR (l.getD i t0)/\l.getD i t0∉l.take i
instance (l:List ByteArray):Decidable (qO l):=inferInstanceAs (Decidable (∀i,i<l.length->_))
def fe (p:aq):List ByteArray:=p.states++p.messages++p.values
theorem rR {p:aq} (hp:Bn p):∀i,((fe p).getD i t0).size<=140737488355328:=by
 intro i
 by_cases hi:i<(fe p).length
 ·have hm:=pO (l:=fe p) t0 hi
  unfold fe at hm
  simp only[List.mem_append] at hm
  rcases hm with (h|h)|h
  ·exact hp.ns.1 _ h
  ·exact hp.ns.2.1 _ h
  ·exact hp.ns.2.2 _ h
 ·rw[gD,List.getElem?_eq_none (by omega)];decide
theorem F0 (p:aq) (hp:Bn p) (hle:p.states.length<=60/\p.messages.length<=60/\p.values.length<=60) (h0:0<p.states.length):aa Tryz.prog 138 [.agg (bc p)] (fun u=>u= .int .i64 (if qO (fe p) then 0 else 2)):=by
 have hsz:=rR hp
 have hlen:(fe p).length=p.states.length+p.messages.length+p.values.length:=by simp[fe];omega
 have hfl:[p.states,p.messages,p.values].flatten=fe p:=by simp[fe]
 have hc:=Ec [p.states,p.messages,p.values] (by simp) (by rw[hfl];omega) (by rw[hfl];omega)
 rw[hfl] at hc
 refine aa.intro ab ac Tryz.func138 rfl (by decide) ?_;(conv=>whnf)
 refine am rfl ?_
 conv=>whnf
 refine c8 [] Ff [p.states,p.messages,p.values] rfl ?_
 conv=>whnf
 refine ar.hand 12 rfl ?_
 (refine oP (hc) ?_;conv=>whnf)
 refine aR.loopF ab ac (fun i:Nat=>i<=(fe p).length/\∀j,j<i->cR ((fe p).getD j t0)/\(fe p).getD j t0∉(fe p).take j) (fun i=>[(16, .int .i64 (i:Int)),(12, .top)]) (fun _=>[]) (fun i=>(fe p).length-i) 0 ⟨by omega,fun j hj=>by omega⟩ ?_;conv=>whnf
 refine⟨sI,?_⟩
 rintro i ⟨hi,ha⟩
 conv=>whnf
 refine ag ?_ ?_<;>(intro h1;conv=>whnf)
 ·refine nI ?_
  rw[tN]
  conv=>whnf
  refine dC (eV _ (by have:=hsz i;omega)) (fun _=>?_) (fun _=>?_)<;>(conv=>whnf)
  ·rename_i hv
   refine nI ?_
   rw[tN]
   conv=>whnf
   refine dC (pM _ _ (by simp;omega)) (fun _=>?_) (fun _=>?_)<;>(conv=>whnf)
   ·rename_i hm
    exact⟨aj (by rw[if_neg (fun h:qO (fe p)=>(h i (by omega)).2 hm)]),rfl⟩
   ·rename_i hm
    repeat' ((first|refine nI ?_|refine aI ?_|refine tI ?_|refine fI ?_|fail);conv=>whnf)
    refine⟨i+1,sI,⟨by omega,fun j hj=>?_⟩,by dsimp only;omega⟩
    by_cases e:j=i
    ·subst e;exact⟨hv,hm⟩
    ·exact ha j (by omega)
  ·rename_i hv
   exact⟨aj (by rw[if_neg (fun h:qO (fe p)=>hv (h i (by omega)).1)]),rfl⟩
 ·exact⟨aj (by rw[if_pos (show qO (fe p) from fun j hj=>ha j (by omega))]),rfl⟩
set_option maxHeartbeats 8000000
def iH (p:aq):Int:=co ((List.range p.rules.length).map fun i=>cW p i (p.rules.getD i au))
def qP (p:aq):Prop:=∀j,j<p.resilience.length->mt (p.resilience.getD j nq)
instance (p:aq):Decidable (qP p):=inferInstanceAs (Decidable (∀j,j<p.resilience.length->_))
def uP (p:aq):Int:=co [cO p.initial p.states.length,(if p.initial.length=0 then 1 else 0),cO p.leader p.states.length,iH p,(if 3<(my p.rules).length then 4 else 0)]
def bC (p:aq):Int:=
 if¬cR p.name then 2 else if p.topology<1\/4<p.topology\/p.fault<0\/3<p.fault then 1 else if p.states.length=0 then 1
 else if 6<p.states.length\/3<p.messages.length\/3<p.values.length\/4<p.resilience.length\/8<p.rules.length then 4
 else if¬qO (fe p) then 2
 else if(p.topology≠1/\(0<p.messages.length\/0<p.values.length\/0<p.resilience.length\/p.fault≠0))\/(p.topology=1/\0<p.leader.length) then 1
 else if¬qP p then 4 else uP p
theorem pS {n k:Nat} (h:k<n):(List.range n).getD k 0=k:=by
 rw[gD,List.getElem?_range h];rfl
theorem mA:∀{l:List Int},co l=0->∀x∈l,x=0
 |[],_,x,hx=>by cases hx
 |a::l,h,x,hx=>by
  by_cases ha:a=0
  ·rw[bH ha] at h
   rcases List.mem_cons.1 hx with rfl|hx
   ·exact ha
   ·exact mA h x hx
  ·rw[cx ha] at h;omega
theorem wG {p:aq} {i:Nat} {r:cY} (h:cW p i r=0):cR r.name/\cb r.kind p.topology/\¬jz r p.topology/\(0<=r.src/\r.src<p.states.length)/\(0<=r.dst/\r.dst<p.states.length)/\dH p r=0:=by
 unfold cW at h
 by_cases h1:¬cR r.name\/ga p.rules i r
 ·rw[if_pos h1] at h;omega
 rw[if_neg h1] at h
 by_cases h2:¬cb r.kind p.topology\/jz r p.topology
 ·rw[if_pos h2] at h;omega
 rw[if_neg h2] at h
 have hz:=mA h
 have b1:=hz (cZ r.src p.states.length) (by simp)
 have b2:=hz (cZ r.dst p.states.length) (by simp)
 unfold cZ at b1 b2
 refine⟨Classical.not_not.1 fun e=>h1 (.inl e),Classical.not_not.1 fun e=>h2 (.inl e),fun e=>h2 (.inr e),?_,?_,hz _ (by simp)⟩
 ·split at b1<;>omega
 ·split at b2<;>omega
theorem BA {m:Int} {l:List mY} (h:bQ m l=0):l.length<=2:=by
 unfold bQ at h
 split at h
 ·omega
 ·split at h<;>omega
theorem uQ {p:aq} {i:Nat} {r:cY} (h:cW p i r=0):r.guards.length<=2:=by
 obtain⟨_,_,h3,_,_,h6⟩:=wG h
 by_cases k:r.kind=1
 ·unfold dH at h6
  rw[if_pos k] at h6
  exact BA (mA h6 (bQ p.messages.length r.guards) (by simp))
 ·unfold jz at h3;omega
theorem Fg {p:aq} (h:iH p=0) (hl:p.rules.length<=8):HA p:=by
 refine⟨by omega,fun j hj=>?_⟩
 have:=uQ (mA h _ (List.mem_map.2 ⟨j,List.mem_range.2 hj,rfl⟩))
 omega
theorem iZ (p:aq) (hp:Bn p):aa Tryz.prog 93 [.agg (bc p)] (fun u=>u= .int .i64 (bC p)):=by
 have hle:=nu hp
 have he:=bC.eq_1 p
 refine aa.intro ab ac Tryz.func93 rfl (by decide) ?_;(conv=>whnf)
 refine am rfl ?_
 conv=>whnf
 refine ag ?_ ?_<;>(intro ht;conv=>whnf)
 all_goals
  refine dC (eV p.name (by omega)) (fun _=>?_) (fun _=>?_)<;>(conv=>whnf)
  case refine_2=>rename_i hv;rw[if_pos hv] at he;exact⟨aj he.symm,rfl⟩
  rename_i hv
  rw[if_neg (fun h=>h hv)] at he
  by_cases hA:p.topology<1\/4<p.topology\/p.fault<0\/3<p.fault
  ·rw[if_pos hA] at he
   repeat' ((first|refine nI ?_|refine aI ?_|refine uI ?_|refine vI ?_|refine dI ?_|refine dR ?_|refine dP ?_|refine am rfl ?_|refine pI _ rfl ?_|refine ak _ rfl ?_|refine tI ?_|refine fI ?_|refine ag (fun _=>?_) (fun _=>?_))<;>conv=>whnf)
   all_goals exact⟨aj he.symm,rfl⟩
  rw[if_neg hA] at he
  by_cases h0:p.states.length=0
  ·rw[if_pos h0] at he
   repeat' ((first|refine nI ?_|refine aI ?_|refine tI ?_|refine fI ?_|fail);conv=>whnf)
   exact⟨aj he.symm,rfl⟩
  rw[if_neg h0] at he
  by_cases hB:6<p.states.length\/3<p.messages.length\/3<p.values.length\/4<p.resilience.length\/8<p.rules.length
  ·rw[if_pos hB] at he
   repeat' ((first|refine nI ?_|refine aI ?_|refine uI ?_|refine vI ?_|refine dI ?_|refine dR ?_|refine dP ?_|refine am rfl ?_|refine pI _ rfl ?_|refine ak _ rfl ?_|refine tI ?_|refine fI ?_|refine ag (fun _=>?_) (fun _=>?_))<;>conv=>whnf)
   all_goals exact⟨aj he.symm,rfl⟩
  rw[if_neg hB] at he
  repeat' ((first|refine nI ?_|refine aI ?_|refine tI ?_|refine fI ?_|fail);conv=>whnf)
  (refine oP (F0 p hp (by omega) (by omega)) ?_;conv=>whnf)
  by_cases hN:qO (fe p)
  case neg=>
   rw[if_pos hN] at he
   rw[if_neg hN]
   repeat' ((first|refine nI ?_|refine aI ?_|refine tI ?_|refine fI ?_|fail);conv=>whnf)
   exact⟨aj he.symm,rfl⟩
  rw[if_neg (fun h=>h hN)] at he
  rw[if_pos hN]
  by_cases hC:(p.topology≠1/\(0<p.messages.length\/0<p.values.length\/0<p.resilience.length\/p.fault≠0))\/(p.topology=1/\0<p.leader.length)
  ·rw[if_pos hC] at he
   repeat' ((first|refine nI ?_|refine aI ?_|refine uI ?_|refine vI ?_|refine dI ?_|refine dR ?_|refine dP ?_|refine am rfl ?_|refine pI _ rfl ?_|refine ak _ rfl ?_|refine tI ?_|refine fI ?_|refine ag (fun _=>?_) (fun _=>?_))<;>conv=>whnf)
   all_goals exact⟨aj he.symm,rfl⟩
  rw[if_neg hC] at he
  repeat' ((first|refine nI ?_|refine aI ?_|refine tI ?_|refine fI ?_|fail);conv=>whnf)
  refine aR.loopF ab ac (fun k:Nat=>k<=p.resilience.length/\∀j,j<k->mt (p.resilience.getD j nq)) (fun k=>[(113, .int .i64 (k:Int))]) (fun _=>[]) (fun k=>p.resilience.length-k) 0 ⟨by omega,fun j hj=>by omega⟩ ?_;conv=>whnf
  refine⟨sI,?_⟩
  rintro k ⟨hk,ha⟩
  conv=>whnf
  refine ag ?_ ?_<;>(intro h1;conv=>whnf)
  ·refine nI ?_
   rw[tN]
   conv=>whnf
   refine dC (mv (p.resilience.getD k nq)) (fun _=>?_) (fun _=>?_)<;>(conv=>whnf)
   ·rename_i hb
    repeat' ((first|refine nI ?_|refine aI ?_|refine tI ?_|refine fI ?_|fail);conv=>whnf)
    refine⟨k+1,sI,⟨by omega,fun j hj=>?_⟩,by dsimp only;omega⟩
    by_cases e:j=k
    ·subst e;exact hb
    ·exact ha j (by omega)
   ·rename_i hb
    rw[if_pos (fun h:qP p=>hb (h k (by omega)))] at he
    exact⟨aj he.symm,rfl⟩
  rw[if_neg (fun h=>h (show qP p from fun j hj=>ha j (by omega))),uP] at he
  refine dI ?_
  conv=>whnf
  (refine oC (lE p.initial _ (by omega)) ?_;conv=>whnf)
  have hf:∀x:Int,x=(if p.initial.length=0 then 1 else 0)->bC p=if co [cO p.initial p.states.length,x,cO p.leader p.states.length]≠0 then co [cO p.initial p.states.length,x,cO p.leader p.states.length] else co [iH p,(if 3<(my p.rules).length then 4 else 0)]:=by
   rintro x rfl
   rw[he,show[cO p.initial p.states.length,(if p.initial.length=0 then(1:Int) else 0),cO p.leader p.states.length,iH p,(if 3<(my p.rules).length then 4 else 0)]=[cO p.initial p.states.length,(if p.initial.length=0 then(1:Int) else 0),cO p.leader p.states.length]++[iH p,(if 3<(my p.rules).length then 4 else 0)] from rfl,Bz]
  clear he
  by_cases hI:p.initial.length=0
  ·have hx:=hf 1 (by rw[if_pos hI])
   repeat' ((first|refine nI ?_|refine aI ?_|refine tI ?_|refine fI ?_|fail);conv=>whnf)
   (refine oC (ir 1) ?_;conv=>whnf)
   (refine oC (lE p.leader _ (by omega)) ?_;conv=>whnf)
   refine dF ?_
   conv=>whnf
   (refine oC (cI _ (by simp)) ?_;conv=>whnf)
   refine ag ?_ ?_<;>(intro h1;conv=>whnf)
   ·rw[if_pos h1] at hx;exact⟨aj hx.symm,rfl⟩
   ·exfalso
    apply h1
    simp only[co]
    (repeat' split)<;>omega
  have hx:=hf 0 (by rw[if_neg hI])
  repeat' ((first|refine nI ?_|refine aI ?_|refine tI ?_|refine fI ?_|fail);conv=>whnf)
  (refine oC (gh 1) ?_;conv=>whnf)
  (refine oC (lE p.leader _ (by omega)) ?_;conv=>whnf)
  refine dF ?_
  conv=>whnf
  (refine oC (cI _ (by simp)) ?_;conv=>whnf)
  refine ag ?_ ?_<;>(intro h1;conv=>whnf)
  ·rw[if_pos h1] at hx;exact⟨aj hx.symm,rfl⟩
  rw[if_neg h1] at hx
  refine aR.loopF ab ac (fun k:Nat=>k<=p.rules.length/\iH p=co (((List.range p.rules.length).drop k).map fun i=>cW p i (p.rules.getD i au))) (fun k=>[(142, .int .i64 (k:Int))]) (fun _=>[]) (fun k=>p.rules.length-k) 0 ⟨by omega,rfl⟩ ?_;conv=>whnf
  refine⟨sI,?_⟩
  rintro k ⟨hk,hr⟩
  conv=>whnf
  refine ag ?_ ?_<;>(intro h2;conv=>whnf)
  ·rw[d7 _ 0 (by simp;omega),pS (by omega)] at hr
   (refine oP (wF p k hp (by omega)) ?_;conv=>whnf)
   refine ag ?_ ?_<;>(intro h3;conv=>whnf)
   ·rw[if_pos h3] at hr
    rw[hr,cx h3] at hx
    exact⟨aj hx.symm,rfl⟩
   ·rw[if_neg h3] at hr
    repeat' ((first|refine nI ?_|refine aI ?_|refine tI ?_|refine fI ?_|fail);conv=>whnf)
    exact⟨k+1,sI,⟨by omega,hr⟩,by dsimp only;omega⟩
  obtain rfl:k=p.rules.length:=by omega
  rw[List.drop_of_length_le (by simp)] at hr
  rw[bH hr] at hx
  (refine oP (uM p (Fg (show iH p=0 from hr) (by omega))) ?_;conv=>whnf)
  refine ag ?_ ?_<;>(intro h3;conv=>whnf)
  ·rw[if_pos (by omega)] at hx
   (refine oP (ir 4) ?_;conv=>whnf)
   exact⟨aj hx.symm,rfl⟩
  ·rw[if_neg (by omega)] at hx
   (refine oP (gh 4) ?_;conv=>whnf)
   exact⟨aj hx.symm,rfl⟩
theorem nx (p:aq) (hp:Bn p):aa Tryz.prog 71 [.agg (bc p)] (fun u=>u= .int .i64 (bC p)):=by
 have hle:=nu hp
 have he:=bC.eq_1 p
 have hsz:=rR hp
 have hlen:(fe p).length=p.states.length+p.messages.length+p.values.length:=by simp[fe];omega
 refine aa.intro ab ac Tryz.func71 rfl (by decide) ?_;(conv=>whnf)
 refine am rfl ?_
 conv=>whnf
 refine dC (jy p.name (by omega)) (fun _=>?_) (fun _=>?_)<;>(conv=>whnf)
 case refine_2=>rename_i hv;rw[if_pos hv] at he;exact⟨aj he.symm,rfl⟩
 rename_i hv
 rw[if_neg (fun h=>h hv)] at he
 refine dC (bd _ _ _) (fun _=>?_) (fun _=>?_)<;>(conv=>whnf)
 case refine_2=>rename_i h;rw[if_pos (by omega)] at he;exact⟨aj he.symm,rfl⟩
 rename_i hA1
 refine dC (bd _ _ _) (fun _=>?_) (fun _=>?_)<;>(conv=>whnf)
 case refine_2=>rename_i h;rw[if_pos (by omega)] at he;exact⟨aj he.symm,rfl⟩
 rename_i hA2
 rw[if_neg (by omega)] at he
 by_cases h0:p.states.length=0
 ·rw[if_pos h0] at he
  repeat' ((first|refine nI ?_|refine aI ?_|refine tI ?_|refine fI ?_|fail);conv=>whnf)
  exact⟨aj he.symm,rfl⟩
 rw[if_neg h0] at he
 by_cases hB:6<p.states.length\/3<p.messages.length\/3<p.values.length\/4<p.resilience.length\/8<p.rules.length
 ·rw[if_pos hB] at he
  repeat' ((first|refine nI ?_|refine aI ?_|refine uI ?_|refine vI ?_|refine dI ?_|refine dR ?_|refine dP ?_|refine am rfl ?_|refine pI _ rfl ?_|refine ak _ rfl ?_|refine tI ?_|refine fI ?_|refine ag (fun _=>?_) (fun _=>?_))<;>conv=>whnf)
  all_goals exact⟨aj he.symm,rfl⟩
 rw[if_neg hB] at he
 repeat' ((first|refine nI ?_|refine aI ?_|refine tI ?_|refine fI ?_|fail);conv=>whnf)
 refine dP ?_
 conv=>whnf
 refine c8 t0 gU [] rfl ?_
 conv=>whnf
 refine jN ?_
 conv=>whnf
 refine eC _ rfl (by dsimp only;simp only[List.length_nil];omega) ?_
 conv=>whnf
 refine eC _ rfl (by simp only[List.length_append,List.length_nil];omega) ?_
 conv=>whnf
 refine eC _ rfl (by simp only[List.length_append,List.length_nil];omega) ?_
 conv=>whnf
 refine aR.loopF ab ac (fun i:Nat=>i<=(fe p).length/\∀j,j<i->cR ((fe p).getD j t0)/\(fe p).getD j t0∉(fe p).take j) (fun i=>[(4, .int .i64 (i:Int)),(3, .sl t0 gU (fe p)),(56, .top),(59, .top),(62, .top),(65, .top)]) (fun _=>[]) (fun i=>(fe p).length-i) 0 ⟨by omega,fun j hj=>by omega⟩ ?_;conv=>whnf
 refine⟨bE.leak 65 rfl (bE.by_ [] [] 400 rfl trivial (ai)),?_⟩
 rintro i ⟨hi,ha⟩
 conv=>whnf
 refine ag ?_ ?_<;>(intro h1;conv=>whnf)
 ·refine dI ?_
  conv=>whnf
  refine nI ?_
  rw[tN]
  conv=>whnf
  refine dD (jy _ (by have:=hsz i;omega)) (fun _=>?_) (fun _=>?_)<;>(conv=>whnf)
  ·rename_i hv
   refine nI ?_
   rw[tN]
   conv=>whnf
   refine nI ?_
   rw[tN]
   conv=>whnf
   refine dD (uG _ _ (by simp;omega)) (fun _=>?_) (fun _=>?_)<;>(conv=>whnf)
   ·rename_i hm
    rw[if_pos (fun h:qO (fe p)=>(h i (by omega)).2 hm)] at he
    exact⟨aj he.symm,rfl⟩
   ·rename_i hm
    repeat' ((first|refine nI ?_|refine aI ?_|refine tI ?_|refine fI ?_|fail);conv=>whnf)
    refine⟨i+1,sI,⟨by omega,fun j hj=>?_⟩,by dsimp only;omega⟩
    by_cases e:j=i
    ·subst e;exact⟨hv,hm⟩
    ·exact ha j (by omega)
  ·rename_i hv
   rw[if_pos (fun h:qO (fe p)=>hv (h i (by omega)).1)] at he
   exact⟨aj he.symm,rfl⟩
 rw[if_neg (fun h=>h (show qO (fe p) from fun j hj=>ha j (by omega)))] at he
 by_cases hC:(p.topology≠1/\(0<p.messages.length\/0<p.values.length\/0<p.resilience.length\/p.fault≠0))\/(p.topology=1/\0<p.leader.length)
 ·rw[if_pos hC] at he
  repeat' ((first|refine nI ?_|refine aI ?_|refine uI ?_|refine vI ?_|refine dI ?_|refine dR ?_|refine dP ?_|refine am rfl ?_|refine pI _ rfl ?_|refine ak _ rfl ?_|refine tI ?_|refine fI ?_|refine ag (fun _=>?_) (fun _=>?_))<;>conv=>whnf)
  all_goals exact⟨aj he.symm,rfl⟩
 rw[if_neg hC] at he
 refine ag ?_ ?_<;>(intro ht;conv=>whnf)
 all_goals
  repeat' ((first|refine nI ?_|refine aI ?_|refine tI ?_|refine fI ?_|fail);conv=>whnf)
  refine aR.loopF ab ac (fun k:Nat=>k<=p.resilience.length/\∀j,j<k->mt (p.resilience.getD j nq)) (fun k=>[(5, .int .i64 (k:Int))]) (fun _=>[]) (fun k=>p.resilience.length-k) 0 ⟨by omega,fun j hj=>by omega⟩ ?_;conv=>whnf
  refine⟨sI,?_⟩
  rintro k ⟨hk,ha⟩
  conv=>whnf
  refine ag ?_ ?_<;>(intro h1;conv=>whnf)
  ·refine nI ?_
   rw[tN]
   conv=>whnf
   refine dC (FZ (p.resilience.getD k nq)) (fun _=>?_) (fun _=>?_)<;>(conv=>whnf)
   ·rename_i hb
    repeat' ((first|refine nI ?_|refine aI ?_|refine tI ?_|refine fI ?_|fail);conv=>whnf)
    refine⟨k+1,sI,⟨by omega,fun j hj=>?_⟩,by dsimp only;omega⟩
    by_cases e:j=k
    ·subst e;exact hb
    ·exact ha j (by omega)
   ·rename_i hb
    rw[if_pos (fun h:qP p=>hb (h k (by omega)))] at he
    exact⟨aj he.symm,rfl⟩
  rw[if_neg (fun h=>h (show qP p from fun j hj=>ha j (by omega))),uP] at he
  (refine oP (pL p.initial _ (by omega) (by omega)) ?_;conv=>whnf)
  refine ag ?_ ?_<;>(intro hx;conv=>whnf)
  ·exact⟨aj (by rw[he,cx hx]),rfl⟩
  rw[bH (by omega)] at he
  refine ag ?_ ?_<;>(intro hx;conv=>whnf)
  ·exact⟨aj (by rw[he,if_pos (by omega),cx (by decide)]),rfl⟩
  rw[if_neg (by omega),bH rfl] at he
  (refine oP (pL p.leader _ (by omega) (by omega)) ?_;conv=>whnf)
  refine ag ?_ ?_<;>(intro hx;conv=>whnf)
  ·exact⟨aj (by rw[he,cx hx]),rfl⟩
  rw[bH (by omega)] at he
  refine aR.loopF ab ac (fun k:Nat=>k<=p.rules.length/\iH p=co (((List.range p.rules.length).drop k).map fun i=>cW p i (p.rules.getD i au))) (fun k=>[(8, .int .i64 (k:Int))]) (fun _=>[]) (fun k=>p.rules.length-k) 0 ⟨by omega,rfl⟩ ?_;conv=>whnf
  refine⟨sI,?_⟩
  rintro k ⟨hk,hr⟩
  conv=>whnf
  refine ag ?_ ?_<;>(intro h2;conv=>whnf)
  ·rw[d7 _ 0 (by simp;omega),pS (by omega)] at hr
   (refine oP (HC p k hp (by omega)) ?_;conv=>whnf)
   refine ag ?_ ?_<;>(intro h3;conv=>whnf)
   ·rw[if_pos h3] at hr
    rw[hr,cx h3] at he
    exact⟨aj he.symm,rfl⟩
   ·rw[if_neg h3] at hr
    repeat' ((first|refine nI ?_|refine aI ?_|refine tI ?_|refine fI ?_|fail);conv=>whnf)
    exact⟨k+1,sI,⟨by omega,hr⟩,by dsimp only;omega⟩
  obtain rfl:k=p.rules.length:=by omega
  rw[List.drop_of_length_le (by simp)] at hr
  rw[bH hr] at he
  (refine oP (y3 p (Fg (show iH p=0 from hr) (by omega))) ?_;conv=>whnf)
  refine ag ?_ ?_<;>(intro h3;conv=>whnf)
  ·rw[if_pos (by omega)] at he
   exact⟨aj he.symm,rfl⟩
  ·rw[if_neg (by omega)] at he
   exact⟨aj he.symm,rfl⟩
structure aB where
 n:Int
 t:Int
 f:Int
def bW (s:aB):List AV:=[.int .i64 s.n, .int .i64 s.t, .int .i64 s.f]
def pT (l:wA) (s:aB):Int:=l.c+l.n*s.n+l.t*s.t+l.f*s.f
def BB (s:aB):Prop:=(0<=s.n/\s.n<=1048576)/\(0<=s.t/\s.t<=1048576)/\(0<=s.f/\s.f<=1048576)
theorem BC {a b:Int} (ha:qN a) (hb:0<=b/\b<=1048576):-104857600<=a*b/\a*b<=104857600:=by
 unfold qN at ha
 have h1:a*b<=100*b:=Int.mul_le_mul_of_nonneg_right ha.2 hb.1
 have h2:-100*b<=a*b:=Int.mul_le_mul_of_nonneg_right ha.1 hb.1
 omega
theorem xF {l:wA} {s:aB} (hl:mt l) (hs:BB s):(-104857600<=l.n*s.n/\l.n*s.n<=104857600)/\(-104857600<=l.t*s.t/\l.t*s.t<=104857600)/\(-104857600<=l.f*s.f/\l.f*s.f<=104857600)/\(-100<=l.c/\l.c<=100):=
 ⟨BC hl.2.1 hs.1,BC hl.2.2.1 hs.2.1,BC hl.2.2.2 hs.2.2,hl.1⟩
theorem rS (l:wA) (s:aB) (hl:mt l) (hs:BB s):aa Tryz.prog 153 [.agg (lD l), .agg (bW s)] (fun u=>u= .tup [.int .i64 (pT l s), .int .i64 0]):=by
 obtain⟨b1,b2,b3,b4⟩:=xF hl hs
 refine aa.intro ab ac Tryz.func153 rfl (by decide) ?_;(conv=>whnf)
 refine am rfl ?_
 conv=>whnf
 refine am rfl ?_
 conv=>whnf
 refine dC (mv l) (fun _=>?_) (fun _=>?_)<;>(conv=>whnf)
 case refine_2=>rename_i h;exact absurd hl h
 refine aR.loopF ab ac (fun k:Nat=>k<=3) (fun k=>[(19, .int .i64 (k:Int))]) (fun _=>[(17, .row 3 0 aD [s.n,s.t,s.f])]) (fun k=>3-k) 0 (by omega) ?_;conv=>whnf
 refine⟨sI,?_⟩
 intro k hk
 conv=>whnf
 refine ag ?_ ?_<;>(intro h1;conv=>whnf)
 ·refine nI ?_
  rw[tN]
  have hx:0<=[s.n,s.t,s.f].getD k 0/\[s.n,s.t,s.f].getD k 0<=1048576:=by
   obtain⟨c1,c2,c3⟩:=hs
   have:k=0\/k=1\/k=2:=by omega
   rcases this with rfl|rfl|rfl
   ·exact c1
   ·exact c2
   ·exact c3
  conv=>whnf
  repeat' ((first|refine nI ?_|refine aI ?_|refine tI ?_|refine fI ?_|fail);conv=>whnf)
  exact⟨k+1,sI,by omega,by dsimp only;omega⟩
 ·repeat' ((first|refine nI ?_|refine aI ?_|refine tI ?_|refine fI ?_|fail);conv=>whnf)
  exact⟨rfl,rfl⟩
theorem BD (l:wA) (s:aB) (hl:mt l) (hs:BB s):aa Tryz.prog 149 [.agg (lD l), .agg (bW s)] (fun u=>u= .int .i64 (pT l s)):=by
 obtain⟨b1,b2,b3,b4⟩:=xF hl hs
 refine aa.intro ab ac Tryz.func149 rfl (by decide) ?_;(conv=>whnf)
 refine am rfl ?_
 conv=>whnf
 refine am rfl ?_
 conv=>whnf
 repeat' ((first|refine nI ?_|refine aI ?_|refine tI ?_|refine fI ?_|fail);conv=>whnf)
 exact⟨rfl,rfl⟩
def sX (p:aq) (s:aB):Prop:=(1<=s.n/\s.n<=1048576)/\(0<=s.t/\s.t<=s.n)/\(0<=s.f/\s.f<=s.n)
def sY (p:aq) (s:aB):Prop:=¬(p.fault=0/\(s.t≠0\/s.f≠0))
def uR (p:aq) (s:aB):Prop:=¬(p.topology=4/\s.n.tmod 2=0)
def F1 (p:aq) (s:aB):Prop:=∀j,j<p.resilience.length->0<=pT (p.resilience.getD j nq) s
def jA (p:aq) (s:aB):Prop:=sX p s/\sY p s/\uR p s/\F1 p s
instance (p:aq) (s:aB):Decidable (sX p s):=inferInstanceAs (Decidable (_/\_))
instance (p:aq) (s:aB):Decidable (sY p s):=inferInstanceAs (Decidable (¬_))
instance (p:aq) (s:aB):Decidable (uR p s):=inferInstanceAs (Decidable (¬_))
instance (p:aq) (s:aB):Decidable (F1 p s):=inferInstanceAs (Decidable (∀j,j<p.resilience.length->_))
instance (p:aq) (s:aB):Decidable (jA p s):=inferInstanceAs (Decidable (_/\_))
theorem xG {p:aq} {s:aB} (h:sX p s):BB s:=by unfold sX at h;unfold BB;omega
theorem HF (p:aq) (s:aB) (hp:¬bV p) (hr:qP p):aa Tryz.prog 118 [.agg (bc p), .agg (bW s)] (fun u=>u= .bool (decide (jA p s))):=by
 have hle:=aC hp
 refine aa.intro ab ac Tryz.func118 rfl (by decide) ?_;(conv=>whnf)
 refine am rfl ?_
 conv=>whnf
 refine am rfl ?_
 conv=>whnf
 by_cases hA:sX p s
 case neg=>
  have hno:¬jA p s:=fun h=>hA h.1
  unfold sX at hA
  repeat' ((first|refine nI ?_|refine aI ?_|refine uI ?_|refine vI ?_|refine dI ?_|refine dR ?_|refine dP ?_|refine am rfl ?_|refine pI _ rfl ?_|refine ak _ rfl ?_|refine tI ?_|refine fI ?_|refine ag (fun _=>?_) (fun _=>?_))<;>conv=>whnf)
  all_goals exact⟨an hno,rfl⟩
 have hz:=xG hA
 have hA2:=hA
 unfold sX at hA2
 by_cases hC:sY p s
 case neg=>
  have hno:¬jA p s:=fun h=>hC h.2.1
  unfold sY at hC
  repeat' ((first|refine nI ?_|refine aI ?_|refine uI ?_|refine vI ?_|refine dI ?_|refine dR ?_|refine dP ?_|refine am rfl ?_|refine pI _ rfl ?_|refine ak _ rfl ?_|refine tI ?_|refine fI ?_|refine ag (fun _=>?_) (fun _=>?_))<;>conv=>whnf)
  all_goals exact⟨an hno,rfl⟩
 have hC2:=hC
 unfold sY at hC2
 by_cases hD:uR p s
 case neg=>
  have hno:¬jA p s:=fun h=>hD h.2.2.1
  unfold uR at hD
  repeat' ((first|refine nI ?_|refine aI ?_|refine uI ?_|refine vI ?_|refine dI ?_|refine dR ?_|refine dP ?_|refine am rfl ?_|refine pI _ rfl ?_|refine ak _ rfl ?_|refine tI ?_|refine fI ?_|refine ag (fun _=>?_) (fun _=>?_))<;>conv=>whnf)
  all_goals exact⟨an hno,rfl⟩
 have hD2:=hD
 unfold uR at hD2
 repeat' ((first|refine nI ?_|refine aI ?_|refine uI ?_|refine vI ?_|refine dI ?_|refine dR ?_|refine dP ?_|refine am rfl ?_|refine pI _ rfl ?_|refine ak _ rfl ?_|refine tI ?_|refine fI ?_|refine ag (fun _=>?_) (fun _=>?_))<;>conv=>whnf)
 all_goals
  refine aR.loopF ab ac (fun k:Nat=>k<=p.resilience.length/\∀j,j<k->0<=pT (p.resilience.getD j nq) s) (fun k=>[(69, .int .i64 (k:Int))]) (fun _=>[]) (fun k=>p.resilience.length-k) 0 ⟨by omega,fun j hj=>by omega⟩ ?_;conv=>whnf
  refine⟨sI,?_⟩
  rintro k ⟨hk,ha⟩
  conv=>whnf
  refine ag ?_ ?_<;>(intro h1;conv=>whnf)
  ·refine nI ?_
   rw[tN]
   conv=>whnf
   (refine oP (rS (p.resilience.getD k nq) s (hr k (by omega)) hz) ?_;conv=>whnf)
   refine fE (by decide) ?_
   conv=>whnf
   refine ag ?_ ?_<;>(intro h2;conv=>whnf)
   ·exact⟨an (fun h=>by have:=h.2.2.2 k (by omega);omega),rfl⟩
   ·repeat' ((first|refine nI ?_|refine aI ?_|refine tI ?_|refine fI ?_|fail);conv=>whnf)
    refine⟨k+1,sI,⟨by omega,fun j hj=>?_⟩,by dsimp only;omega⟩
    by_cases e:j=k
    ·subst e;omega
    ·exact ha j (by omega)
  ·exact⟨aH ⟨hA,hC,hD,fun j hj=>ha j (by omega)⟩,rfl⟩
theorem HG {n:Int} (h:0<=n):n.tmod 2=0\/n.tmod 2=1:=by
 rw[Int.tmod_eq_emod_of_nonneg h];omega
theorem nY (p:aq) (s:aB) (hp:¬bV p) (hr:qP p):aa Tryz.prog 107 [.agg (bc p), .agg (bW s)] (fun u=>u= .bool (decide (jA p s))):=by
 have hle:=aC hp
 refine aa.intro ab ac Tryz.func107 rfl (by decide) ?_;(conv=>whnf)
 refine am rfl ?_
 conv=>whnf
 refine am rfl ?_
 conv=>whnf
 refine dC (bd _ _ _) (fun _=>?_) (fun _=>?_)<;>(conv=>whnf)
 case refine_2=>rename_i h;exact⟨an (fun hh=>h hh.1.1),rfl⟩
 rename_i a1
 refine dC (bd _ _ _) (fun _=>?_) (fun _=>?_)<;>(conv=>whnf)
 case refine_2=>rename_i h;exact⟨an (fun hh=>h hh.1.2.1),rfl⟩
 rename_i a2
 refine dC (bd _ _ _) (fun _=>?_) (fun _=>?_)<;>(conv=>whnf)
 case refine_2=>rename_i h;exact⟨an (fun hh=>h hh.1.2.2),rfl⟩
 rename_i a3
 have hA:sX p s:=⟨a1,a2,a3⟩
 have hz:=xG hA
 have ht:=HG (n:=s.n) (by omega)
 refine aR.loopF ab ac (fun k:Nat=>k<=p.resilience.length/\∀j,j<k->0<=pT (p.resilience.getD j nq) s) (fun k=>[(5, .int .i64 (k:Int))]) (fun _=>[]) (fun k=>p.resilience.length-k) 0 ⟨by omega,fun j hj=>by omega⟩ ?_;conv=>whnf
 refine⟨sI,?_⟩
 rintro k ⟨hk,ha⟩
 conv=>whnf
 refine ag ?_ ?_<;>(intro h1;conv=>whnf)
 ·refine dI ?_
  conv=>whnf
  refine nI ?_
  rw[tN]
  conv=>whnf
  (refine oC (BD (p.resilience.getD k nq) s (hr k (by omega)) hz) ?_;conv=>whnf)
  refine ag ?_ ?_<;>(intro h2;conv=>whnf)
  ·exact⟨an (fun h=>by have:=h.2.2.2 k (by omega);omega),rfl⟩
  ·repeat' ((first|refine nI ?_|refine aI ?_|refine tI ?_|refine fI ?_|fail);conv=>whnf)
   refine⟨k+1,sI,⟨by omega,fun j hj=>?_⟩,by dsimp only;omega⟩
   by_cases e:j=k
   ·subst e;omega
   ·exact ha j (by omega)
 have hE:F1 p s:=fun j hj=>ha j (by omega)
 by_cases hC:sY p s
 case neg=>
  have hno:¬jA p s:=fun h=>hC h.2.1
  unfold sY at hC
  repeat' ((first|refine nI ?_|refine aI ?_|refine uI ?_|refine vI ?_|refine dI ?_|refine dR ?_|refine dP ?_|refine am rfl ?_|refine pI _ rfl ?_|refine ak _ rfl ?_|refine tI ?_|refine fI ?_|refine ag (fun _=>?_) (fun _=>?_))<;>conv=>whnf)
  all_goals exact⟨an hno,rfl⟩
 by_cases hD:uR p s
 case neg=>
  have hno:¬jA p s:=fun h=>hD h.2.2.1
  unfold sY at hC
  unfold uR at hD
  repeat' ((first|refine nI ?_|refine aI ?_|refine uI ?_|refine vI ?_|refine dI ?_|refine dR ?_|refine dP ?_|refine am rfl ?_|refine pI _ rfl ?_|refine ak _ rfl ?_|refine tI ?_|refine fI ?_|refine ag (fun _=>?_) (fun _=>?_))<;>conv=>whnf)
  all_goals exact⟨an hno,rfl⟩
 have hyes:jA p s:=⟨hA,hC,hD,hE⟩
 unfold sY at hC
 unfold uR at hD
 repeat' ((first|refine nI ?_|refine aI ?_|refine uI ?_|refine vI ?_|refine dI ?_|refine dR ?_|refine dP ?_|refine am rfl ?_|refine pI _ rfl ?_|refine ak _ rfl ?_|refine tI ?_|refine fI ?_|refine ag (fun _=>?_) (fun _=>?_))<;>conv=>whnf)
 all_goals exact⟨aH hyes,rfl⟩
theorem jB {p:aq} (h:bC p=0):qP p:=by
 unfold bC at h
 refine Classical.byContradiction fun hn=>?_
 (repeat' split at h)<;>first|omega|exact absurd ‹¬¬qP p› (fun hh=>hh hn)
def cE (p:aq) (s:aB):Int:=if bC p≠0 then bC p else if¬jA p s then 8 else if 8<s.n then 4 else 0
theorem uS (p:aq) (s:aB) (hp:¬bV p) (hv:bC p=0):aa Tryz.prog 100 [.agg (bc p), .agg (bW s)] (fun u=>u= .bool (decide (jA p s))):=by
 refine aa.intro ab ac Tryz.func100 rfl (by decide) ?_;(conv=>whnf)
 refine am rfl ?_
 conv=>whnf
 refine am rfl ?_
 conv=>whnf
 (refine oP (iZ p (jx hp)) ?_;conv=>whnf)
 refine fc hv ?_
 conv=>whnf
 refine dC (HF p s hp (jB hv)) (fun _=>?_) (fun _=>?_)<;>(conv=>whnf)
 ·rename_i h;exact⟨aH h,rfl⟩
 ·rename_i h;exact⟨an h,rfl⟩
theorem wH (p:aq) (s:aB) (hp:¬bV p):aa Tryz.prog 49 [.agg (bc p), .agg (bW s)] (fun u=>u= .int .i64 (cE p s)):=by
 refine aa.intro ab ac Tryz.func49 rfl (by decide) ?_;(conv=>whnf)
 refine am rfl ?_
 conv=>whnf
 refine am rfl ?_
 conv=>whnf
 (refine oP (iZ p (jx hp)) ?_;conv=>whnf)
 refine ag ?_ ?_<;>(intro h1;conv=>whnf)
 ·(refine oP (iZ p (jx hp)) ?_;conv=>whnf)
  exact⟨aj (by rw[cE,if_pos h1]),rfl⟩
 have h1:bC p=0:=by omega
 refine dC (uS p s hp h1) (fun _=>?_) (fun _=>?_)<;>(conv=>whnf)
 ·rename_i h2
  refine ag ?_ ?_<;>(intro h3;conv=>whnf)
  ·exact⟨aj (by rw[cE,if_neg (by omega),if_neg (fun h=>h h2),if_pos h3]),rfl⟩
  ·exact⟨aj (by rw[cE,if_neg (by omega),if_neg (fun h=>h h2),if_neg h3]),rfl⟩
 ·rename_i h2
  exact⟨aj (by rw[cE,if_neg (by omega),if_pos h2]),rfl⟩
theorem BE (p:aq) (s:aB) (hp:¬bV p):aa Tryz.prog 54 [.agg (bc p), .agg (bW s)] (fun u=>u= .int .i64 (cE p s)):=by
 refine aa.intro ab ac Tryz.func54 rfl (by decide) ?_;(conv=>whnf)
 refine am rfl ?_
 conv=>whnf
 refine am rfl ?_
 conv=>whnf
 (refine oP (nx p (jx hp)) ?_;conv=>whnf)
 refine ag ?_ ?_<;>(intro h1;conv=>whnf)
 ·exact⟨aj (by rw[cE,if_pos h1]),rfl⟩
 have h1:bC p=0:=by omega
 refine dC (nY p s hp (jB h1)) (fun _=>?_) (fun _=>?_)<;>(conv=>whnf)
 ·rename_i h2
  refine ag ?_ ?_<;>(intro h3;conv=>whnf)
  ·exact⟨aj (by rw[cE,if_neg (by omega),if_neg (fun h=>h h2),if_pos h3]),rfl⟩
  ·exact⟨aj (by rw[cE,if_neg (by omega),if_neg (fun h=>h h2),if_neg h3]),rfl⟩
 ·rename_i h2
  exact⟨aj (by rw[cE,if_neg (by omega),if_pos h2]),rfl⟩
theorem dY {p:aq} {s:aB} (h:cE p s=0):bC p=0/\jA p s/\1<=s.n/\s.n<=8/\0<=s.t/\s.t<=s.n/\0<=s.f/\s.f<=s.n:=by
 unfold cE at h
 split at h
 ·omega
 ·rename_i h1
  split at h
  ·omega
  ·rename_i h2
   split at h
   ·omega
   ·have h2:jA p s:=Classical.byContradiction h2
    have:=h2.1
    unfold sX at this
    exact⟨by omega,h2,by omega⟩
def dL (p:aq) (s:aB):Int:=if p.fault=3 then s.n-s.f else s.n
theorem uT (p:aq) (s:aB) (h:0<=s.n/\s.n<=1048576/\0<=s.f/\s.f<=1048576):aa Tryz.prog 125 [.agg (bc p), .agg (bW s)] (fun u=>u= .int .i64 (dL p s)):=by
 refine aa.intro ab ac Tryz.func125 rfl (by decide) ?_;(conv=>whnf)
 refine am rfl ?_
 conv=>whnf
 refine am rfl ?_
 conv=>whnf
 repeat' ((first|refine nI ?_|refine aI ?_|refine uI ?_|refine vI ?_|refine dI ?_|refine dR ?_|refine dP ?_|refine am rfl ?_|refine pI _ rfl ?_|refine ak _ rfl ?_|refine tI ?_|refine fI ?_|refine ag (fun _=>?_) (fun _=>?_))<;>conv=>whnf)
 ·rename_i h3;exact⟨aj (by rw[dL,if_pos h3]),rfl⟩
 ·rename_i h3;exact⟨aj (by rw[dL,if_neg h3]),rfl⟩
theorem pU (p:aq) (s:aB) (h:0<=s.n/\s.n<=1048576/\0<=s.f/\s.f<=1048576):aa Tryz.prog 57 [.agg (bc p), .agg (bW s)] (fun u=>u= .int .i64 (dL p s)):=by
 refine aa.intro ab ac Tryz.func57 rfl (by decide) ?_;(conv=>whnf)
 refine am rfl ?_
 conv=>whnf
 refine am rfl ?_
 conv=>whnf
 repeat' ((first|refine nI ?_|refine aI ?_|refine uI ?_|refine vI ?_|refine dI ?_|refine dR ?_|refine dP ?_|refine am rfl ?_|refine pI _ rfl ?_|refine ak _ rfl ?_|refine tI ?_|refine fI ?_|refine ag (fun _=>?_) (fun _=>?_))<;>conv=>whnf)
 ·rename_i h3;exact⟨aj (by rw[dL,if_pos h3]),rfl⟩
 ·rename_i h3;exact⟨aj (by rw[dL,if_neg h3]),rfl⟩
end Go.Proofs.YtblcpnmnibcbbaaGreatDoor
