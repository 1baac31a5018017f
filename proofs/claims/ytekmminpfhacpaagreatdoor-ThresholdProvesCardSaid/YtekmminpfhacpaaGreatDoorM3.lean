import Derived.Test.YtekmminpfhacpaaGreatDoorFnT
set_option linter.unusedVariables false
set_option linter.unusedSimpArgs false
namespace Go.Proofs.YtekmminpfhacpaaGreatDoor
set_option maxRecDepth 100000
set_option maxHeartbeats 4000000
def N8 (l:List ByteArray):bf:=.row 9 t0 fo l
def KQ (l:List ByteArray):List AV:=[.sl t0 fo l]
theorem N9 (n:Nat) (h0:0<n) (hn:n<=1000):aj Tryz.prog 287 [.nilsl, .int .i64 (n:Int)] (ag.ofL []) (fun u M=>∃ℓ0,u= .row ℓ0 0 1/\M ℓ0=some (N8 [])):=by
 refine aj.intro ab ac [] Tryz.func287 rfl (by decide) ?_
 conv=>whnf
 repeat' ((first|refine nI ?_|refine aI ?_|refine tI ?_|refine fI ?_|fail);conv=>whnf)
 refine x7 t0 fo t0 rfl (by dsimp only;omega) ?_
 conv=>whnf
 repeat' ((first|refine nI ?_|refine aI ?_|refine tI ?_|refine fI ?_|refine FP ?_|fail);conv=>whnf)
 exact⟨25,rfl,rfl⟩
theorem Jx (ls:List (List ByteArray)) (hl:ls.length<=10) (h0:0<ls.flatten.length) (hn:ls.flatten.length<=1000):ah Tryz.prog 255 [.sl [] KQ ls] (fun u=>u= .sl t0 fo ls.flatten):=by
 have hpart:∀i,(ls.take i).flatten.length<=1000:=fun i=>by
  have:ls.flatten=(ls.take i).flatten++(ls.drop i).flatten:=by rw[<-List.flatten_append,List.take_append_drop]
  rw[this] at hn
  simp only[List.length_append] at hn
  omega
 have hsucc:∀i,i<ls.length->(ls.take (i+1)).flatten=(ls.take i).flatten++ls.getD i []:=fun i hi=>by
  rw[cp [] hi,List.flatten_append];simp
 refine ah.intro ab ac Tryz.func255 rfl (by decide) ?_;(conv=>whnf)
 refine aJ.loopF ab ac (fun i:Nat=>i<=ls.length) (fun i=>[(11, .int .i64 (i:Int)),(3, .int .i64 ((ls.take i).flatten.length:Int))]) (fun _=>[]) (fun i=>ls.length-i) 0 (by omega) ?_;conv=>whnf
 refine⟨sI,?_⟩
 intro i hi
 conv=>whnf
 refine ae ?_ ?_<;>(intro h1;conv=>whnf)
 ·refine nI ?_
  rw[tN]
  have hs:=hsucc i (by omega)
  have h2:=hpart (i+1)
  rw[hs,List.length_append] at h2
  conv=>whnf
  repeat' ((first|refine nI ?_|refine aI ?_|refine tI ?_|refine fI ?_|fail);conv=>whnf)
  refine⟨i+1,?_,by omega,by dsimp only;omega⟩
  dsimp only
  rw[hs,List.length_append]
  exact sI
 ·obtain rfl:i=ls.length:=by omega
  rw[List.take_length]
  refine aj.fresh 24 (N9 _ h0 hn) rfl (aa) ?_
  conv=>whnf
  refine aJ.loopF ab ac (fun i:Nat=>i<=ls.length) (fun i=>[(27, .int .i64 (i:Int)),(6, .row 1000 (ls.take i).flatten.length 1),(24, .top)]) (fun i=>[(1000,N8 (ls.take i).flatten)]) (fun i=>ls.length-i) 0 (by omega) ?_;conv=>whnf
  refine⟨aH.by_ [(1000, .old 24)] _ 400 rfl (aa) (aa),?_⟩
  intro i hi
  conv=>whnf
  refine ae ?_ ?_<;>(intro h1;conv=>whnf)
  ·refine nI ?_
   rw[tN]
   have hs:=hsucc i (by omega)
   have h2:=hpart (i+1)
   rw[hs,List.length_append] at h2
   conv=>whnf
   refine bq _ rfl (by dsimp only;omega) ?_
   conv=>whnf
   repeat' ((first|refine nI ?_|refine aI ?_|refine tI ?_|refine fI ?_|fail);conv=>whnf)
   refine⟨i+1,?_,by omega,by dsimp only;omega⟩
   dsimp only
   rw[hs,List.length_append]
   exact aH.by_ [(1000, .old 33)] _ 400 rfl (aa) (aa)
  ·obtain rfl:i=ls.length:=by omega
   rw[List.take_length]
   exact⟨rfl,rfl⟩
def qq (l:List ByteArray):Prop:=∀i,i<l.length->c9 (l.getD i t0)/\l.getD i t0∉l.take i
instance (l:List ByteArray):Decidable (qq l):=inferInstanceAs (Decidable (∀i,i<l.length->_))
def eN (p:av):List ByteArray:=p.states++p.messages++p.values
theorem vK {p:av} (hp:lO p):∀i,((eN p).getD i t0).size<=140737488355328:=by
 intro i
 by_cases hi:i<(eN p).length
 ·have hm:=bu (l:=eN p) t0 hi
  unfold eN at hm
  simp only[List.mem_append] at hm
  rcases hm with (h|h)|h
  ·exact hp.ns.1 _ h
  ·exact hp.ns.2.1 _ h
  ·exact hp.ns.2.2 _ h
 ·rw[gD,List.getElem?_eq_none (by omega)];decide
theorem LP (p:av) (hp:lO p) (hle:p.states.length<=60/\p.messages.length<=60/\p.values.length<=60) (h0:0<p.states.length):ah Tryz.prog 186 [.agg (cV p)] (fun u=>u= .int .i64 (if qq (eN p) then 0 else 2)):=by
 have hsz:=vK hp
 have hlen:(eN p).length=p.states.length+p.messages.length+p.values.length:=by simp[eN];omega
 have hfl:[p.states,p.messages,p.values].flatten=eN p:=by simp[eN]
 have hc:=Jx [p.states,p.messages,p.values] (by simp) (by rw[hfl];omega) (by rw[hfl];omega)
 rw[hfl] at hc
 refine ah.intro ab ac Tryz.func186 rfl (by decide) ?_;(conv=>whnf)
 refine au rfl ?_
 conv=>whnf
 refine bp [] KQ [p.states,p.messages,p.values] rfl ?_
 conv=>whnf
 refine aj.hand 12 rfl ?_
 (refine oP (hc) ?_;conv=>whnf)
 refine aJ.loopF ab ac (fun i:Nat=>i<=(eN p).length/\∀j,j<i->c9 ((eN p).getD j t0)/\(eN p).getD j t0∉(eN p).take j) (fun i=>[(16, .int .i64 (i:Int)),(12, .top)]) (fun _=>[]) (fun i=>(eN p).length-i) 0 ⟨by omega,fun j hj=>by omega⟩ ?_;conv=>whnf
 refine⟨sI,?_⟩
 rintro i ⟨hi,ha⟩
 conv=>whnf
 refine ae ?_ ?_<;>(intro h1;conv=>whnf)
 ·refine nI ?_
  rw[tN]
  conv=>whnf
  refine dC (fX _ (by have:=hsz i;omega)) (fun _=>?_) (fun _=>?_)<;>(conv=>whnf)
  ·rename_i hv
   refine nI ?_
   rw[tN]
   conv=>whnf
   refine dC (tz _ _ (by simp;omega)) (fun _=>?_) (fun _=>?_)<;>(conv=>whnf)
   ·rename_i hm
    exact⟨ao (by rw[if_neg (fun h:qq (eN p)=>(h i (by omega)).2 hm)]),rfl⟩
   ·rename_i hm
    repeat' ((first|refine nI ?_|refine aI ?_|refine tI ?_|refine fI ?_|fail);conv=>whnf)
    refine⟨i+1,sI,⟨by omega,fun j hj=>?_⟩,by dsimp only;omega⟩
    by_cases e:j=i
    ·subst e;exact⟨hv,hm⟩
    ·exact ha j (by omega)
  ·rename_i hv
   exact⟨ao (by rw[if_neg (fun h:qq (eN p)=>hv (h i (by omega)).1)]),rfl⟩
 ·exact⟨ao (by rw[if_pos (show qq (eN p) from fun j hj=>ha j (by omega))]),rfl⟩
set_option maxHeartbeats 8000000
def jy (p:av):Int:=dH ((List.range p.rules.length).map fun i=>da p i (p.rules.getD i ax))
def zd (p:av):Prop:=∀j,j<p.resilience.length->eY (p.resilience.getD j eX)
instance (p:av):Decidable (zd p):=inferInstanceAs (Decidable (∀j,j<p.resilience.length->_))
def CE (p:av):Int:=dH [ca p.initial p.states.length,(if p.initial.length=0 then 1 else 0),ca p.leader p.states.length,jy p,(if 3<(ay p.rules).length then 4 else 0)]
def aX (p:av):Int:=
 if¬c9 p.name then 2 else if p.topology<1\/4<p.topology\/p.fault<0\/3<p.fault then 1 else if p.states.length=0 then 1
 else if 6<p.states.length\/3<p.messages.length\/3<p.values.length\/4<p.resilience.length\/8<p.rules.length then 4
 else if¬qq (eN p) then 2
 else if(p.topology≠1/\(0<p.messages.length\/0<p.values.length\/0<p.resilience.length\/p.fault≠0))\/(p.topology=1/\0<p.leader.length) then 1
 else if¬zd p then 4 else CE p
theorem tD {n k:Nat} (h:k<n):(List.range n).getD k 0=k:=by
 rw[gD,List.getElem?_range h];rfl
theorem cI:∀{l:List Int},dH l=0->∀x∈l,x=0
 |[],_,x,hx=>by cases hx
 |a::l,h,x,hx=>by
  by_cases ha:a=0
  ·rw[bP ha] at h
   rcases List.mem_cons.1 hx with rfl|hx
   ·exact ha
   ·exact cI h x hx
  ·rw[cZ ha] at h;omega
theorem jz {p:av} {i:Nat} {r:cf} (h:da p i r=0):c9 r.name/\i7 r.kind p.topology/\¬jI r p.topology/\(0<=r.src/\r.src<p.states.length)/\(0<=r.dst/\r.dst<p.states.length)/\dN p r=0:=by
 unfold da at h
 by_cases h1:¬c9 r.name\/iP p.rules i r
 ·rw[if_pos h1] at h;omega
 rw[if_neg h1] at h
 by_cases h2:¬i7 r.kind p.topology\/jI r p.topology
 ·rw[if_pos h2] at h;omega
 rw[if_neg h2] at h
 have hz:=cI h
 have b1:=hz (dA r.src p.states.length) (by simp)
 have b2:=hz (dA r.dst p.states.length) (by simp)
 unfold dA at b1 b2
 refine⟨Classical.not_not.1 fun e=>h1 (.inl e),Classical.not_not.1 fun e=>h2 (.inl e),fun e=>h2 (.inr e),?_,?_,hz _ (by simp)⟩
 ·split at b1<;>omega
 ·split at b2<;>omega
theorem tE {m:Int} {l:List fH} (h:ci m l=0):l.length<=2:=by
 unfold ci at h
 split at h
 ·omega
 ·split at h<;>omega
theorem ze {p:av} {i:Nat} {r:cf} (h:da p i r=0):r.guards.length<=2:=by
 obtain⟨_,_,h3,_,_,h6⟩:=jz h
 by_cases k:r.kind=1
 ·unfold dN at h6
  rw[if_pos k] at h6
  exact tE (cI h6 (ci p.messages.length r.guards) (by simp))
 ·unfold jI at h3;omega
theorem KR {p:av} (h:jy p=0) (hl:p.rules.length<=8):NA p:=by
 refine⟨by omega,fun j hj=>?_⟩
 have:=ze (cI h _ (List.mem_map.2 ⟨j,List.mem_range.2 hj,rfl⟩))
 omega
theorem qr (p:av) (hp:lO p):ah Tryz.prog 99 [.agg (cV p)] (fun u=>u= .int .i64 (aX p)):=by
 have hle:=kj hp
 have he:=aX.eq_1 p
 refine ah.intro ab ac Tryz.func99 rfl (by decide) ?_;(conv=>whnf)
 refine au rfl ?_
 conv=>whnf
 refine ae ?_ ?_<;>(intro ht;conv=>whnf)
 all_goals
  refine dC (fX p.name (by omega)) (fun _=>?_) (fun _=>?_)<;>(conv=>whnf)
  case refine_2=>rename_i hv;rw[if_pos hv] at he;exact⟨ao he.symm,rfl⟩
  rename_i hv
  rw[if_neg (fun h=>h hv)] at he
  by_cases hA:p.topology<1\/4<p.topology\/p.fault<0\/3<p.fault
  ·rw[if_pos hA] at he
   repeat' ((first|refine nI ?_|refine aI ?_|refine uI ?_|refine vI ?_|refine dI ?_|refine dR ?_|refine dP ?_|refine au rfl ?_|refine pI _ rfl ?_|refine ak _ rfl ?_|refine tI ?_|refine fI ?_|refine ae (fun _=>?_) (fun _=>?_))<;>conv=>whnf)
   all_goals exact⟨ao he.symm,rfl⟩
  rw[if_neg hA] at he
  by_cases h0:p.states.length=0
  ·rw[if_pos h0] at he
   repeat' ((first|refine nI ?_|refine aI ?_|refine tI ?_|refine fI ?_|fail);conv=>whnf)
   exact⟨ao he.symm,rfl⟩
  rw[if_neg h0] at he
  by_cases hB:6<p.states.length\/3<p.messages.length\/3<p.values.length\/4<p.resilience.length\/8<p.rules.length
  ·rw[if_pos hB] at he
   repeat' ((first|refine nI ?_|refine aI ?_|refine uI ?_|refine vI ?_|refine dI ?_|refine dR ?_|refine dP ?_|refine au rfl ?_|refine pI _ rfl ?_|refine ak _ rfl ?_|refine tI ?_|refine fI ?_|refine ae (fun _=>?_) (fun _=>?_))<;>conv=>whnf)
   all_goals exact⟨ao he.symm,rfl⟩
  rw[if_neg hB] at he
  repeat' ((first|refine nI ?_|refine aI ?_|refine tI ?_|refine fI ?_|fail);conv=>whnf)
  (refine oP (LP p hp (by omega) (by omega)) ?_;conv=>whnf)
  by_cases hN:qq (eN p)
  case neg=>
   rw[if_pos hN] at he
   rw[if_neg hN]
   repeat' ((first|refine nI ?_|refine aI ?_|refine tI ?_|refine fI ?_|fail);conv=>whnf)
   exact⟨ao he.symm,rfl⟩
  rw[if_neg (fun h=>h hN)] at he
  rw[if_pos hN]
  by_cases hC:(p.topology≠1/\(0<p.messages.length\/0<p.values.length\/0<p.resilience.length\/p.fault≠0))\/(p.topology=1/\0<p.leader.length)
  ·rw[if_pos hC] at he
   repeat' ((first|refine nI ?_|refine aI ?_|refine uI ?_|refine vI ?_|refine dI ?_|refine dR ?_|refine dP ?_|refine au rfl ?_|refine pI _ rfl ?_|refine ak _ rfl ?_|refine tI ?_|refine fI ?_|refine ae (fun _=>?_) (fun _=>?_))<;>conv=>whnf)
   all_goals exact⟨ao he.symm,rfl⟩
  rw[if_neg hC] at he
  repeat' ((first|refine nI ?_|refine aI ?_|refine tI ?_|refine fI ?_|fail);conv=>whnf)
  refine aJ.loopF ab ac (fun k:Nat=>k<=p.resilience.length/\∀j,j<k->eY (p.resilience.getD j eX)) (fun k=>[(113, .int .i64 (k:Int))]) (fun _=>[]) (fun k=>p.resilience.length-k) 0 ⟨by omega,fun j hj=>by omega⟩ ?_;conv=>whnf
  refine⟨sI,?_⟩
  rintro k ⟨hk,ha⟩
  conv=>whnf
  refine ae ?_ ?_<;>(intro h1;conv=>whnf)
  ·refine nI ?_
   rw[tN]
   conv=>whnf
   refine dC (tA (p.resilience.getD k eX)) (fun _=>?_) (fun _=>?_)<;>(conv=>whnf)
   ·rename_i hb
    repeat' ((first|refine nI ?_|refine aI ?_|refine tI ?_|refine fI ?_|fail);conv=>whnf)
    refine⟨k+1,sI,⟨by omega,fun j hj=>?_⟩,by dsimp only;omega⟩
    by_cases e:j=k
    ·subst e;exact hb
    ·exact ha j (by omega)
   ·rename_i hb
    rw[if_pos (fun h:zd p=>hb (h k (by omega)))] at he
    exact⟨ao he.symm,rfl⟩
  rw[if_neg (fun h=>h (show zd p from fun j hj=>ha j (by omega))),CE] at he
  refine dI ?_
  conv=>whnf
  (refine oC (oc p.initial _ (by omega)) ?_;conv=>whnf)
  have hf:∀x:Int,x=(if p.initial.length=0 then 1 else 0)->aX p=if dH [ca p.initial p.states.length,x,ca p.leader p.states.length]≠0 then dH [ca p.initial p.states.length,x,ca p.leader p.states.length] else dH [jy p,(if 3<(ay p.rules).length then 4 else 0)]:=by
   rintro x rfl
   rw[he,show[ca p.initial p.states.length,(if p.initial.length=0 then(1:Int) else 0),ca p.leader p.states.length,jy p,(if 3<(ay p.rules).length then 4 else 0)]=[ca p.initial p.states.length,(if p.initial.length=0 then(1:Int) else 0),ca p.leader p.states.length]++[jy p,(if 3<(ay p.rules).length then 4 else 0)] from rfl,Gi]
  clear he
  by_cases hI:p.initial.length=0
  ·have hx:=hf 1 (by rw[if_pos hI])
   repeat' ((first|refine nI ?_|refine aI ?_|refine tI ?_|refine fI ?_|fail);conv=>whnf)
   (refine oC (jW 1) ?_;conv=>whnf)
   (refine oC (oc p.leader _ (by omega)) ?_;conv=>whnf)
   refine eH ?_
   conv=>whnf
   (refine oC (dh _ (by simp)) ?_;conv=>whnf)
   refine ae ?_ ?_<;>(intro h1;conv=>whnf)
   ·rw[if_pos h1] at hx;exact⟨ao hx.symm,rfl⟩
   ·exfalso
    apply h1
    simp only[dH]
    (repeat' split)<;>omega
  have hx:=hf 0 (by rw[if_neg hI])
  repeat' ((first|refine nI ?_|refine aI ?_|refine tI ?_|refine fI ?_|fail);conv=>whnf)
  (refine oC (iY 1) ?_;conv=>whnf)
  (refine oC (oc p.leader _ (by omega)) ?_;conv=>whnf)
  refine eH ?_
  conv=>whnf
  (refine oC (dh _ (by simp)) ?_;conv=>whnf)
  refine ae ?_ ?_<;>(intro h1;conv=>whnf)
  ·rw[if_pos h1] at hx;exact⟨ao hx.symm,rfl⟩
  rw[if_neg h1] at hx
  refine aJ.loopF ab ac (fun k:Nat=>k<=p.rules.length/\jy p=dH (((List.range p.rules.length).drop k).map fun i=>da p i (p.rules.getD i ax))) (fun k=>[(142, .int .i64 (k:Int))]) (fun _=>[]) (fun k=>p.rules.length-k) 0 ⟨by omega,rfl⟩ ?_;conv=>whnf
  refine⟨sI,?_⟩
  rintro k ⟨hk,hr⟩
  conv=>whnf
  refine ae ?_ ?_<;>(intro h2;conv=>whnf)
  ·rw[fp _ 0 (by simp;omega),tD (by omega)] at hr
   (refine oP (Bf p k hp (by omega)) ?_;conv=>whnf)
   refine ae ?_ ?_<;>(intro h3;conv=>whnf)
   ·rw[if_pos h3] at hr
    rw[hr,cZ h3] at hx
    exact⟨ao hx.symm,rfl⟩
   ·rw[if_neg h3] at hr
    repeat' ((first|refine nI ?_|refine aI ?_|refine tI ?_|refine fI ?_|fail);conv=>whnf)
    exact⟨k+1,sI,⟨by omega,hr⟩,by dsimp only;omega⟩
  obtain rfl:k=p.rules.length:=by omega
  rw[List.drop_of_length_le (by simp)] at hr
  rw[bP hr] at hx
  (refine oP (ri p (KR (show jy p=0 from hr) (by omega))) ?_;conv=>whnf)
  refine ae ?_ ?_<;>(intro h3;conv=>whnf)
  ·rw[if_pos (by omega)] at hx
   (refine oP (jW 4) ?_;conv=>whnf)
   exact⟨ao hx.symm,rfl⟩
  ·rw[if_neg (by omega)] at hx
   (refine oP (iY 4) ?_;conv=>whnf)
   exact⟨ao hx.symm,rfl⟩
theorem qt (p:av) (hp:lO p):ah Tryz.prog 113 [.agg (cV p)] (fun u=>u= .int .i64 (aX p)):=by
 have hle:=kj hp
 have he:=aX.eq_1 p
 have hsz:=vK hp
 have hlen:(eN p).length=p.states.length+p.messages.length+p.values.length:=by simp[eN];omega
 refine ah.intro ab ac Tryz.func113 rfl (by decide) ?_;(conv=>whnf)
 refine au rfl ?_
 conv=>whnf
 refine dC (lq p.name (by omega)) (fun _=>?_) (fun _=>?_)<;>(conv=>whnf)
 case refine_2=>rename_i hv;rw[if_pos hv] at he;exact⟨ao he.symm,rfl⟩
 rename_i hv
 rw[if_neg (fun h=>h hv)] at he
 refine dC (bV _ _ _) (fun _=>?_) (fun _=>?_)<;>(conv=>whnf)
 case refine_2=>rename_i h;rw[if_pos (by omega)] at he;exact⟨ao he.symm,rfl⟩
 rename_i hA1
 refine dC (bV _ _ _) (fun _=>?_) (fun _=>?_)<;>(conv=>whnf)
 case refine_2=>rename_i h;rw[if_pos (by omega)] at he;exact⟨ao he.symm,rfl⟩
 rename_i hA2
 rw[if_neg (by omega)] at he
 by_cases h0:p.states.length=0
 ·rw[if_pos h0] at he
  repeat' ((first|refine nI ?_|refine aI ?_|refine tI ?_|refine fI ?_|fail);conv=>whnf)
  exact⟨ao he.symm,rfl⟩
 rw[if_neg h0] at he
 by_cases hB:6<p.states.length\/3<p.messages.length\/3<p.values.length\/4<p.resilience.length\/8<p.rules.length
 ·rw[if_pos hB] at he
  repeat' ((first|refine nI ?_|refine aI ?_|refine uI ?_|refine vI ?_|refine dI ?_|refine dR ?_|refine dP ?_|refine au rfl ?_|refine pI _ rfl ?_|refine ak _ rfl ?_|refine tI ?_|refine fI ?_|refine ae (fun _=>?_) (fun _=>?_))<;>conv=>whnf)
  all_goals exact⟨ao he.symm,rfl⟩
 rw[if_neg hB] at he
 repeat' ((first|refine nI ?_|refine aI ?_|refine tI ?_|refine fI ?_|fail);conv=>whnf)
 refine dP ?_
 conv=>whnf
 refine bp t0 fo [] rfl ?_
 conv=>whnf
 refine bU ?_
 conv=>whnf
 refine bq _ rfl (by dsimp only;simp only[List.length_nil];omega) ?_
 conv=>whnf
 refine bq _ rfl (by simp only[List.length_append,List.length_nil];omega) ?_
 conv=>whnf
 refine bq _ rfl (by simp only[List.length_append,List.length_nil];omega) ?_
 conv=>whnf
 refine aJ.loopF ab ac (fun i:Nat=>i<=(eN p).length/\∀j,j<i->c9 ((eN p).getD j t0)/\(eN p).getD j t0∉(eN p).take j) (fun i=>[(4, .int .i64 (i:Int)),(3, .sl t0 fo (eN p)),(56, .top),(59, .top),(62, .top),(65, .top)]) (fun _=>[]) (fun i=>(eN p).length-i) 0 ⟨by omega,fun j hj=>by omega⟩ ?_;conv=>whnf
 refine⟨aH.leak 65 rfl (aH.by_ [] [] 400 rfl trivial (aa)),?_⟩
 rintro i ⟨hi,ha⟩
 conv=>whnf
 refine ae ?_ ?_<;>(intro h1;conv=>whnf)
 ·refine dI ?_
  conv=>whnf
  refine nI ?_
  rw[tN]
  conv=>whnf
  refine dD (lq _ (by have:=hsz i;omega)) (fun _=>?_) (fun _=>?_)<;>(conv=>whnf)
  ·rename_i hv
   refine nI ?_
   rw[tN]
   conv=>whnf
   refine nI ?_
   rw[tN]
   conv=>whnf
   refine dD (y5 _ _ (by simp;omega)) (fun _=>?_) (fun _=>?_)<;>(conv=>whnf)
   ·rename_i hm
    rw[if_pos (fun h:qq (eN p)=>(h i (by omega)).2 hm)] at he
    exact⟨ao he.symm,rfl⟩
   ·rename_i hm
    repeat' ((first|refine nI ?_|refine aI ?_|refine tI ?_|refine fI ?_|fail);conv=>whnf)
    refine⟨i+1,sI,⟨by omega,fun j hj=>?_⟩,by dsimp only;omega⟩
    by_cases e:j=i
    ·subst e;exact⟨hv,hm⟩
    ·exact ha j (by omega)
  ·rename_i hv
   rw[if_pos (fun h:qq (eN p)=>hv (h i (by omega)).1)] at he
   exact⟨ao he.symm,rfl⟩
 rw[if_neg (fun h=>h (show qq (eN p) from fun j hj=>ha j (by omega)))] at he
 by_cases hC:(p.topology≠1/\(0<p.messages.length\/0<p.values.length\/0<p.resilience.length\/p.fault≠0))\/(p.topology=1/\0<p.leader.length)
 ·rw[if_pos hC] at he
  repeat' ((first|refine nI ?_|refine aI ?_|refine uI ?_|refine vI ?_|refine dI ?_|refine dR ?_|refine dP ?_|refine au rfl ?_|refine pI _ rfl ?_|refine ak _ rfl ?_|refine tI ?_|refine fI ?_|refine ae (fun _=>?_) (fun _=>?_))<;>conv=>whnf)
  all_goals exact⟨ao he.symm,rfl⟩
 rw[if_neg hC] at he
 refine ae ?_ ?_<;>(intro ht;conv=>whnf)
 all_goals
  repeat' ((first|refine nI ?_|refine aI ?_|refine tI ?_|refine fI ?_|fail);conv=>whnf)
  refine aJ.loopF ab ac (fun k:Nat=>k<=p.resilience.length/\∀j,j<k->eY (p.resilience.getD j eX)) (fun k=>[(5, .int .i64 (k:Int))]) (fun _=>[]) (fun k=>p.resilience.length-k) 0 ⟨by omega,fun j hj=>by omega⟩ ?_;conv=>whnf
  refine⟨sI,?_⟩
  rintro k ⟨hk,ha⟩
  conv=>whnf
  refine ae ?_ ?_<;>(intro h1;conv=>whnf)
  ·refine nI ?_
   rw[tN]
   conv=>whnf
   refine dC (N5 (p.resilience.getD k eX)) (fun _=>?_) (fun _=>?_)<;>(conv=>whnf)
   ·rename_i hb
    repeat' ((first|refine nI ?_|refine aI ?_|refine tI ?_|refine fI ?_|fail);conv=>whnf)
    refine⟨k+1,sI,⟨by omega,fun j hj=>?_⟩,by dsimp only;omega⟩
    by_cases e:j=k
    ·subst e;exact hb
    ·exact ha j (by omega)
   ·rename_i hb
    rw[if_pos (fun h:zd p=>hb (h k (by omega)))] at he
    exact⟨ao he.symm,rfl⟩
  rw[if_neg (fun h=>h (show zd p from fun j hj=>ha j (by omega))),CE] at he
  (refine oP (tx p.initial _ (by omega) (by omega)) ?_;conv=>whnf)
  refine ae ?_ ?_<;>(intro hx;conv=>whnf)
  ·exact⟨ao (by rw[he,cZ hx]),rfl⟩
  rw[bP (by omega)] at he
  refine ae ?_ ?_<;>(intro hx;conv=>whnf)
  ·exact⟨ao (by rw[he,if_pos (by omega),cZ (by decide)]),rfl⟩
  rw[if_neg (by omega),bP rfl] at he
  (refine oP (tx p.leader _ (by omega) (by omega)) ?_;conv=>whnf)
  refine ae ?_ ?_<;>(intro hx;conv=>whnf)
  ·exact⟨ao (by rw[he,cZ hx]),rfl⟩
  rw[bP (by omega)] at he
  refine aJ.loopF ab ac (fun k:Nat=>k<=p.rules.length/\jy p=dH (((List.range p.rules.length).drop k).map fun i=>da p i (p.rules.getD i ax))) (fun k=>[(8, .int .i64 (k:Int))]) (fun _=>[]) (fun k=>p.rules.length-k) 0 ⟨by omega,rfl⟩ ?_;conv=>whnf
  refine⟨sI,?_⟩
  rintro k ⟨hk,hr⟩
  conv=>whnf
  refine ae ?_ ?_<;>(intro h2;conv=>whnf)
  ·rw[fp _ 0 (by simp;omega),tD (by omega)] at hr
   (refine oP (N7 p k hp (by omega)) ?_;conv=>whnf)
   refine ae ?_ ?_<;>(intro h3;conv=>whnf)
   ·rw[if_pos h3] at hr
    rw[hr,cZ h3] at he
    exact⟨ao he.symm,rfl⟩
   ·rw[if_neg h3] at hr
    repeat' ((first|refine nI ?_|refine aI ?_|refine tI ?_|refine fI ?_|fail);conv=>whnf)
    exact⟨k+1,sI,⟨by omega,hr⟩,by dsimp only;omega⟩
  obtain rfl:k=p.rules.length:=by omega
  rw[List.drop_of_length_le (by simp)] at hr
  rw[bP hr] at he
  (refine oP (vF p (KR (show jy p=0 from hr) (by omega))) ?_;conv=>whnf)
  refine ae ?_ ?_<;>(intro h3;conv=>whnf)
  ·rw[if_pos (by omega)] at he
   exact⟨ao he.symm,rfl⟩
  ·rw[if_neg (by omega)] at he
   exact⟨ao he.symm,rfl⟩
structure dV where
 n:Int
 t:Int
 f:Int
def Gj (l:lp) (s:dV):Int:=l.c+l.n*s.n+l.t*s.t+l.f*s.f
def QR (s:dV):Prop:=(0<=s.n/\s.n<=1048576)/\(0<=s.t/\s.t<=1048576)/\(0<=s.f/\s.f<=1048576)
def N' (p:av) (s:dV):Prop:=(1<=s.n/\s.n<=1048576)/\(0<=s.t/\s.t<=s.n)/\(0<=s.f/\s.f<=s.n)
def LQ (p:av) (s:dV):Prop:=¬(p.fault=0/\(s.t≠0\/s.f≠0))
def Oa (p:av) (s:dV):Prop:=¬(p.topology=4/\s.n.tmod 2=0)
def Ob (p:av) (s:dV):Prop:=∀j,j<p.resilience.length->0<=Gj (p.resilience.getD j eX) s
def LR (p:av) (s:dV):Prop:=N' p s/\LQ p s/\Oa p s/\Ob p s
instance (p:av) (s:dV):Decidable (N' p s):=inferInstanceAs (Decidable (_/\_))
instance (p:av) (s:dV):Decidable (LQ p s):=inferInstanceAs (Decidable (¬_))
instance (p:av) (s:dV):Decidable (Oa p s):=inferInstanceAs (Decidable (¬_))
instance (p:av) (s:dV):Decidable (Ob p s):=inferInstanceAs (Decidable (∀j,j<p.resilience.length->_))
instance (p:av) (s:dV):Decidable (LR p s):=inferInstanceAs (Decidable (_/\_))
def Oc (p:av) (s:dV):Int:=if aX p≠0 then aX p else if¬LR p s then 8 else if 8<s.n then 4 else 0
def Ek (p:av) (s:dV):Int:=if p.fault=3 then s.n-s.f else s.n
end Go.Proofs.YtekmminpfhacpaaGreatDoor
