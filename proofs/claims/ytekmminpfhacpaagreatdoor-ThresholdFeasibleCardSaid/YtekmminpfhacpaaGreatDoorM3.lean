import Derived.Test.YtekmminpfhacpaaGreatDoorFnT
set_option linter.unusedVariables false
set_option linter.unusedSimpArgs false
namespace Go.Proofs.YtekmminpfhacpaaGreatDoor
set_option maxRecDepth 100000
set_option maxHeartbeats 4000000
def Qc (l:List ByteArray):aU:=.row 9 t0 gc l
def Mt (l:List ByteArray):List AV:=[.sl t0 gc l]
theorem Qe (n:Nat) (h0:0<n) (hn:n<=1000):aj Tryz.prog 287 [.nilsl, .int .i64 (n:Int)] (ac.ofL []) (fun u M=>∃ℓ0,u= .row ℓ0 0 1/\M ℓ0=some (Qc [])):=by
 refine aj.intro ae ag [] Tryz.func287 rfl (by decide) ?_
 conv=>whnf
 repeat' ((first|refine nI ?_|refine aI ?_|refine tI ?_|refine fI ?_|fail);conv=>whnf)
 refine Cd t0 gc t0 rfl (by dsimp only;omega) ?_
 conv=>whnf
 repeat' ((first|refine nI ?_|refine aI ?_|refine tI ?_|refine fI ?_|refine Np ?_|fail);conv=>whnf)
 exact⟨25,rfl,rfl⟩
theorem KB (ls:List (List ByteArray)) (hl:ls.length<=10) (h0:0<ls.flatten.length) (hn:ls.flatten.length<=1000):ab Tryz.prog 255 [.sl [] Mt ls] (fun u=>u= .sl t0 gc ls.flatten):=by
 have hpart:∀i,(ls.take i).flatten.length<=1000:=fun i=>by
  have:ls.flatten=(ls.take i).flatten++(ls.drop i).flatten:=by rw[<-List.flatten_append,List.take_append_drop]
  rw[this] at hn
  simp only[List.length_append] at hn
  omega
 have hsucc:∀i,i<ls.length->(ls.take (i+1)).flatten=(ls.take i).flatten++ls.getD i []:=fun i hi=>by
  rw[bM [] hi,List.flatten_append];simp
 refine ab.intro ae ag Tryz.func255 rfl (by decide) ?_;(conv=>whnf)
 refine a8.loopF ae ag (fun i:Nat=>i<=ls.length) (fun i=>[(11, .int .i64 (i:Int)),(3, .int .i64 ((ls.take i).flatten.length:Int))]) (fun _=>[]) (fun i=>ls.length-i) 0 (by omega) ?_;conv=>whnf
 refine⟨sI,?_⟩
 intro i hi
 conv=>whnf
 refine ai ?_ ?_<;>(intro h1;conv=>whnf)
 ·refine nI ?_
  rw[tN]
  have hs:=hsucc i (by omega)
  have h2:=hpart (i+1)
  rw[hs,List.length_append] at h2
  conv=>whnf
  repeat' ((first|refine nI ?_|refine aI ?_|refine tI ?_|refine fI ?_|fail);conv=>whnf)
  refine⟨i+1,?_,by omega,by dsimp only;omega⟩
  dsimp only
  rw[hs,List.length_append]
  exact sI
 ·obtain rfl:i=ls.length:=by omega
  rw[List.take_length]
  refine aj.fresh 24 (Qe _ h0 hn) rfl (aa) ?_
  conv=>whnf
  refine a8.loopF ae ag (fun i:Nat=>i<=ls.length) (fun i=>[(27, .int .i64 (i:Int)),(6, .row 1000 (ls.take i).flatten.length 1),(24, .top)]) (fun i=>[(1000,Qc (ls.take i).flatten)]) (fun i=>ls.length-i) 0 (by omega) ?_;conv=>whnf
  refine⟨bd.by_ [(1000, .old 24)] _ 400 rfl (aa) (aa),?_⟩
  intro i hi
  conv=>whnf
  refine ai ?_ ?_<;>(intro h1;conv=>whnf)
  ·refine nI ?_
   rw[tN]
   have hs:=hsucc i (by omega)
   have h2:=hpart (i+1)
   rw[hs,List.length_append] at h2
   conv=>whnf
   refine di _ rfl (by dsimp only;omega) ?_
   conv=>whnf
   repeat' ((first|refine nI ?_|refine aI ?_|refine tI ?_|refine fI ?_|fail);conv=>whnf)
   refine⟨i+1,?_,by omega,by dsimp only;omega⟩
   dsimp only
   rw[hs,List.length_append]
   exact bd.by_ [(1000, .old 33)] _ 400 rfl (aa) (aa)
  ·obtain rfl:i=ls.length:=by omega
   rw[List.take_length]
   exact⟨rfl,rfl⟩
def uD (l:List ByteArray):Prop:=∀i,i<l.length->dq (l.getD i t0)/\l.getD i t0∉l.take i
instance (l:List ByteArray):Decidable (uD l):=inferInstanceAs (Decidable (∀i,i<l.length->_))
def iw (p:ap):List ByteArray:=p.states++p.messages++p.values
theorem EE {p:ap} (hp:qz p):∀i,((iw p).getD i t0).size<=140737488355328:=by
 intro i
 by_cases hi:i<(iw p).length
 ·have hm:=aH (l:=iw p) t0 hi
  unfold iw at hm
  simp only[List.mem_append] at hm
  rcases hm with (h|h)|h
  ·exact hp.ns.1 _ h
  ·exact hp.ns.2.1 _ h
  ·exact hp.ns.2.2 _ h
 ·rw[gD,List.getElem?_eq_none (by omega)];decide
theorem NH (p:ap) (hp:qz p) (hle:p.states.length<=60/\p.messages.length<=60/\p.values.length<=60) (h0:0<p.states.length):ab Tryz.prog 186 [.agg (dg p)] (fun u=>u= .int .i64 (if uD (iw p) then 0 else 2)):=by
 have hsz:=EE hp
 have hlen:(iw p).length=p.states.length+p.messages.length+p.values.length:=by simp[iw];omega
 have hfl:[p.states,p.messages,p.values].flatten=iw p:=by simp[iw]
 have hc:=KB [p.states,p.messages,p.values] (by simp) (by rw[hfl];omega) (by rw[hfl];omega)
 rw[hfl] at hc
 refine ab.intro ae ag Tryz.func186 rfl (by decide) ?_;(conv=>whnf)
 refine ar rfl ?_
 conv=>whnf
 refine c7 [] Mt [p.states,p.messages,p.values] rfl ?_
 conv=>whnf
 refine aj.hand 12 rfl ?_
 (refine oP (hc) ?_;conv=>whnf)
 refine a8.loopF ae ag (fun i:Nat=>i<=(iw p).length/\∀j,j<i->dq ((iw p).getD j t0)/\(iw p).getD j t0∉(iw p).take j) (fun i=>[(16, .int .i64 (i:Int)),(12, .top)]) (fun _=>[]) (fun i=>(iw p).length-i) 0 ⟨by omega,fun j hj=>by omega⟩ ?_;conv=>whnf
 refine⟨sI,?_⟩
 rintro i ⟨hi,ha⟩
 conv=>whnf
 refine ai ?_ ?_<;>(intro h1;conv=>whnf)
 ·refine nI ?_
  rw[tN]
  conv=>whnf
  refine dC (fG _ (by have:=hsz i;omega)) (fun _=>?_) (fun _=>?_)<;>(conv=>whnf)
  ·rename_i hv
   refine nI ?_
   rw[tN]
   conv=>whnf
   refine dC (tB _ _ (by simp;omega)) (fun _=>?_) (fun _=>?_)<;>(conv=>whnf)
   ·rename_i hm
    exact⟨aq (by rw[if_neg (fun h:uD (iw p)=>(h i (by omega)).2 hm)]),rfl⟩
   ·rename_i hm
    repeat' ((first|refine nI ?_|refine aI ?_|refine tI ?_|refine fI ?_|fail);conv=>whnf)
    refine⟨i+1,sI,⟨by omega,fun j hj=>?_⟩,by dsimp only;omega⟩
    by_cases e:j=i
    ·subst e;exact⟨hv,hm⟩
    ·exact ha j (by omega)
  ·rename_i hv
   exact⟨aq (by rw[if_neg (fun h:uD (iw p)=>hv (h i (by omega)).1)]),rfl⟩
 ·exact⟨aq (by rw[if_pos (show uD (iw p) from fun j hj=>ha j (by omega))]),rfl⟩
set_option maxHeartbeats 8000000
def lq (p:ap):Int:=fF ((List.range p.rules.length).map fun i=>fM p i (p.rules.getD i au))
def wS (p:ap):Prop:=∀j,j<p.resilience.length->fP (p.resilience.getD j ik)
instance (p:ap):Decidable (wS p):=inferInstanceAs (Decidable (∀j,j<p.resilience.length->_))
def GI (p:ap):Int:=fF [cE p.initial p.states.length,(if p.initial.length=0 then 1 else 0),cE p.leader p.states.length,lq p,(if 3<(aA p.rules).length then 4 else 0)]
def aL (p:ap):Int:=
 if¬dq p.name then 2 else if p.topology<1\/4<p.topology\/p.fault<0\/3<p.fault then 1 else if p.states.length=0 then 1
 else if 6<p.states.length\/3<p.messages.length\/3<p.values.length\/4<p.resilience.length\/8<p.rules.length then 4
 else if¬uD (iw p) then 2
 else if(p.topology≠1/\(0<p.messages.length\/0<p.values.length\/0<p.resilience.length\/p.fault≠0))\/(p.topology=1/\0<p.leader.length) then 1
 else if¬wS p then 4 else GI p
theorem Bd {n k:Nat} (h:k<n):(List.range n).getD k 0=k:=by
 rw[gD,List.getElem?_range h];rfl
theorem cq:∀{l:List Int},fF l=0->∀x∈l,x=0
 |[],_,x,hx=>by cases hx
 |a::l,h,x,hx=>by
  by_cases ha:a=0
  ·rw[GG ha] at h
   rcases List.mem_cons.1 hx with rfl|hx
   ·exact ha
   ·exact cq h x hx
  ·rw[Bc ha] at h;omega
theorem jm {p:ap} {i:Nat} {r:bE} (h:fM p i r=0):dq r.name/\kq r.kind p.topology/\¬ov r p.topology/\(0<=r.src/\r.src<p.states.length)/\(0<=r.dst/\r.dst<p.states.length)/\fg p r=0:=by
 unfold fM at h
 by_cases h1:¬dq r.name\/mI p.rules i r
 ·rw[if_pos h1] at h;omega
 rw[if_neg h1] at h
 by_cases h2:¬kq r.kind p.topology\/ov r p.topology
 ·rw[if_pos h2] at h;omega
 rw[if_neg h2] at h
 have hz:=cq h
 have b1:=hz (gO r.src p.states.length) (by simp)
 have b2:=hz (gO r.dst p.states.length) (by simp)
 unfold gO at b1 b2
 refine⟨Classical.not_not.1 fun e=>h1 (.inl e),Classical.not_not.1 fun e=>h2 (.inl e),fun e=>h2 (.inr e),?_,?_,hz _ (by simp)⟩
 ·split at b1<;>omega
 ·split at b2<;>omega
theorem tD {m:Int} {l:List fL} (h:cF m l=0):l.length<=2:=by
 unfold cF at h
 split at h
 ·omega
 ·split at h<;>omega
theorem y4 {p:ap} {i:Nat} {r:bE} (h:fM p i r=0):r.guards.length<=2:=by
 obtain⟨_,_,h3,_,_,h6⟩:=jm h
 by_cases k:r.kind=1
 ·unfold fg at h6
  rw[if_pos k] at h6
  exact tD (cq h6 (cF p.messages.length r.guards) (by simp))
 ·unfold ov at h3;omega
theorem Qf {p:ap} (h:lq p=0) (hl:p.rules.length<=8):Qb p:=by
 refine⟨by omega,fun j hj=>?_⟩
 have:=y4 (cq h _ (List.mem_map.2 ⟨j,List.mem_range.2 hj,rfl⟩))
 omega
theorem fN (p:ap) (hp:qz p):ab Tryz.prog 99 [.agg (dg p)] (fun u=>u= .int .i64 (aL p)):=by
 have hle:=tA hp
 have he:=aL.eq_1 p
 refine ab.intro ae ag Tryz.func99 rfl (by decide) ?_;(conv=>whnf)
 refine ar rfl ?_
 conv=>whnf
 refine ai ?_ ?_<;>(intro ht;conv=>whnf)
 all_goals
  refine dC (fG p.name (by omega)) (fun _=>?_) (fun _=>?_)<;>(conv=>whnf)
  case refine_2=>rename_i hv;rw[if_pos hv] at he;exact⟨aq he.symm,rfl⟩
  rename_i hv
  rw[if_neg (fun h=>h hv)] at he
  by_cases hA:p.topology<1\/4<p.topology\/p.fault<0\/3<p.fault
  ·rw[if_pos hA] at he
   repeat' ((first|refine nI ?_|refine aI ?_|refine uI ?_|refine vI ?_|refine dI ?_|refine dR ?_|refine dP ?_|refine ar rfl ?_|refine pI _ rfl ?_|refine an _ rfl ?_|refine tI ?_|refine fI ?_|refine ai (fun _=>?_) (fun _=>?_))<;>conv=>whnf)
   all_goals exact⟨aq he.symm,rfl⟩
  rw[if_neg hA] at he
  by_cases h0:p.states.length=0
  ·rw[if_pos h0] at he
   repeat' ((first|refine nI ?_|refine aI ?_|refine tI ?_|refine fI ?_|fail);conv=>whnf)
   exact⟨aq he.symm,rfl⟩
  rw[if_neg h0] at he
  by_cases hB:6<p.states.length\/3<p.messages.length\/3<p.values.length\/4<p.resilience.length\/8<p.rules.length
  ·rw[if_pos hB] at he
   repeat' ((first|refine nI ?_|refine aI ?_|refine uI ?_|refine vI ?_|refine dI ?_|refine dR ?_|refine dP ?_|refine ar rfl ?_|refine pI _ rfl ?_|refine an _ rfl ?_|refine tI ?_|refine fI ?_|refine ai (fun _=>?_) (fun _=>?_))<;>conv=>whnf)
   all_goals exact⟨aq he.symm,rfl⟩
  rw[if_neg hB] at he
  repeat' ((first|refine nI ?_|refine aI ?_|refine tI ?_|refine fI ?_|fail);conv=>whnf)
  (refine oP (NH p hp (by omega) (by omega)) ?_;conv=>whnf)
  by_cases hN:uD (iw p)
  case neg=>
   rw[if_pos hN] at he
   rw[if_neg hN]
   repeat' ((first|refine nI ?_|refine aI ?_|refine tI ?_|refine fI ?_|fail);conv=>whnf)
   exact⟨aq he.symm,rfl⟩
  rw[if_neg (fun h=>h hN)] at he
  rw[if_pos hN]
  by_cases hC:(p.topology≠1/\(0<p.messages.length\/0<p.values.length\/0<p.resilience.length\/p.fault≠0))\/(p.topology=1/\0<p.leader.length)
  ·rw[if_pos hC] at he
   repeat' ((first|refine nI ?_|refine aI ?_|refine uI ?_|refine vI ?_|refine dI ?_|refine dR ?_|refine dP ?_|refine ar rfl ?_|refine pI _ rfl ?_|refine an _ rfl ?_|refine tI ?_|refine fI ?_|refine ai (fun _=>?_) (fun _=>?_))<;>conv=>whnf)
   all_goals exact⟨aq he.symm,rfl⟩
  rw[if_neg hC] at he
  repeat' ((first|refine nI ?_|refine aI ?_|refine tI ?_|refine fI ?_|fail);conv=>whnf)
  refine a8.loopF ae ag (fun k:Nat=>k<=p.resilience.length/\∀j,j<k->fP (p.resilience.getD j ik)) (fun k=>[(113, .int .i64 (k:Int))]) (fun _=>[]) (fun k=>p.resilience.length-k) 0 ⟨by omega,fun j hj=>by omega⟩ ?_;conv=>whnf
  refine⟨sI,?_⟩
  rintro k ⟨hk,ha⟩
  conv=>whnf
  refine ai ?_ ?_<;>(intro h1;conv=>whnf)
  ·refine nI ?_
   rw[tN]
   conv=>whnf
   refine dC (pn (p.resilience.getD k ik)) (fun _=>?_) (fun _=>?_)<;>(conv=>whnf)
   ·rename_i hb
    repeat' ((first|refine nI ?_|refine aI ?_|refine tI ?_|refine fI ?_|fail);conv=>whnf)
    refine⟨k+1,sI,⟨by omega,fun j hj=>?_⟩,by dsimp only;omega⟩
    by_cases e:j=k
    ·subst e;exact hb
    ·exact ha j (by omega)
   ·rename_i hb
    rw[if_pos (fun h:wS p=>hb (h k (by omega)))] at he
    exact⟨aq he.symm,rfl⟩
  rw[if_neg (fun h=>h (show wS p from fun j hj=>ha j (by omega))),GI] at he
  refine dI ?_
  conv=>whnf
  (refine oC (ou p.initial _ (by omega)) ?_;conv=>whnf)
  have hf:∀x:Int,x=(if p.initial.length=0 then 1 else 0)->aL p=if fF [cE p.initial p.states.length,x,cE p.leader p.states.length]≠0 then fF [cE p.initial p.states.length,x,cE p.leader p.states.length] else fF [lq p,(if 3<(aA p.rules).length then 4 else 0)]:=by
   rintro x rfl
   rw[he,show[cE p.initial p.states.length,(if p.initial.length=0 then(1:Int) else 0),cE p.leader p.states.length,lq p,(if 3<(aA p.rules).length then 4 else 0)]=[cE p.initial p.states.length,(if p.initial.length=0 then(1:Int) else 0),cE p.leader p.states.length]++[lq p,(if 3<(aA p.rules).length then 4 else 0)] from rfl,GH]
  clear he
  by_cases hI:p.initial.length=0
  ·have hx:=hf 1 (by rw[if_pos hI])
   repeat' ((first|refine nI ?_|refine aI ?_|refine tI ?_|refine fI ?_|fail);conv=>whnf)
   (refine oC (jO 1) ?_;conv=>whnf)
   (refine oC (ou p.leader _ (by omega)) ?_;conv=>whnf)
   refine ef ?_
   conv=>whnf
   (refine oC (cW _ (by simp)) ?_;conv=>whnf)
   refine ai ?_ ?_<;>(intro h1;conv=>whnf)
   ·rw[if_pos h1] at hx;exact⟨aq hx.symm,rfl⟩
   ·exfalso
    apply h1
    simp only[fF]
    (repeat' split)<;>omega
  have hx:=hf 0 (by rw[if_neg hI])
  repeat' ((first|refine nI ?_|refine aI ?_|refine tI ?_|refine fI ?_|fail);conv=>whnf)
  (refine oC (iI 1) ?_;conv=>whnf)
  (refine oC (ou p.leader _ (by omega)) ?_;conv=>whnf)
  refine ef ?_
  conv=>whnf
  (refine oC (cW _ (by simp)) ?_;conv=>whnf)
  refine ai ?_ ?_<;>(intro h1;conv=>whnf)
  ·rw[if_pos h1] at hx;exact⟨aq hx.symm,rfl⟩
  rw[if_neg h1] at hx
  refine a8.loopF ae ag (fun k:Nat=>k<=p.rules.length/\lq p=fF (((List.range p.rules.length).drop k).map fun i=>fM p i (p.rules.getD i au))) (fun k=>[(142, .int .i64 (k:Int))]) (fun _=>[]) (fun k=>p.rules.length-k) 0 ⟨by omega,rfl⟩ ?_;conv=>whnf
  refine⟨sI,?_⟩
  rintro k ⟨hk,hr⟩
  conv=>whnf
  refine ai ?_ ?_<;>(intro h2;conv=>whnf)
  ·rw[lp _ 0 (by simp;omega),Bd (by omega)] at hr
   (refine oP (Bb p k hp (by omega)) ?_;conv=>whnf)
   refine ai ?_ ?_<;>(intro h3;conv=>whnf)
   ·rw[if_pos h3] at hr
    rw[hr,Bc h3] at hx
    exact⟨aq hx.symm,rfl⟩
   ·rw[if_neg h3] at hr
    repeat' ((first|refine nI ?_|refine aI ?_|refine tI ?_|refine fI ?_|fail);conv=>whnf)
    exact⟨k+1,sI,⟨by omega,hr⟩,by dsimp only;omega⟩
  obtain rfl:k=p.rules.length:=by omega
  rw[List.drop_of_length_le (by simp)] at hr
  rw[GG hr] at hx
  (refine oP (rm p (Qf (show lq p=0 from hr) (by omega))) ?_;conv=>whnf)
  refine ai ?_ ?_<;>(intro h3;conv=>whnf)
  ·rw[if_pos (by omega)] at hx
   (refine oP (jO 4) ?_;conv=>whnf)
   exact⟨aq hx.symm,rfl⟩
  ·rw[if_neg (by omega)] at hx
   (refine oP (iI 4) ?_;conv=>whnf)
   exact⟨aq hx.symm,rfl⟩
structure aN where
 n:Int
 t:Int
 f:Int
def gr (s:aN):List AV:=[.int .i64 s.n, .int .i64 s.t, .int .i64 s.f]
def ku (l:l7) (s:aN):Int:=l.c+l.n*s.n+l.t*s.t+l.f*s.f
def Mu (s:aN):Prop:=(0<=s.n/\s.n<=1048576)/\(0<=s.t/\s.t<=1048576)/\(0<=s.f/\s.f<=1048576)
theorem GJ {a b:Int} (ha:cP a) (hb:0<=b/\b<=1048576):-104857600<=a*b/\a*b<=104857600:=by
 unfold cP at ha
 have h1:a*b<=100*b:=Int.mul_le_mul_of_nonneg_right ha.2 hb.1
 have h2:-100*b<=a*b:=Int.mul_le_mul_of_nonneg_right ha.1 hb.1
 omega
theorem KC {l:l7} {s:aN} (hl:fP l) (hs:Mu s):(-104857600<=l.n*s.n/\l.n*s.n<=104857600)/\(-104857600<=l.t*s.t/\l.t*s.t<=104857600)/\(-104857600<=l.f*s.f/\l.f*s.f<=104857600)/\(-100<=l.c/\l.c<=100):=
 ⟨GJ hl.2.1 hs.1,GJ hl.2.2.1 hs.2.1,GJ hl.2.2.2 hs.2.2,hl.1⟩
theorem vv (l:l7) (s:aN) (hl:fP l) (hs:Mu s):ab Tryz.prog 173 [.agg (cV l), .agg (gr s)] (fun u=>u= .tup [.int .i64 (ku l s), .int .i64 0]):=by
 obtain⟨b1,b2,b3,b4⟩:=KC hl hs
 refine ab.intro ae ag Tryz.func173 rfl (by decide) ?_;(conv=>whnf)
 refine ar rfl ?_
 conv=>whnf
 refine ar rfl ?_
 conv=>whnf
 refine dC (pn l) (fun _=>?_) (fun _=>?_)<;>(conv=>whnf)
 case refine_2=>rename_i h;exact absurd hl h
 refine a8.loopF ae ag (fun k:Nat=>k<=3) (fun k=>[(19, .int .i64 (k:Int))]) (fun _=>[(17, .row 3 0 ak [s.n,s.t,s.f])]) (fun k=>3-k) 0 (by omega) ?_;conv=>whnf
 refine⟨sI,?_⟩
 intro k hk
 conv=>whnf
 refine ai ?_ ?_<;>(intro h1;conv=>whnf)
 ·refine nI ?_
  rw[tN]
  have hx:0<=[s.n,s.t,s.f].getD k 0/\[s.n,s.t,s.f].getD k 0<=1048576:=by
   obtain⟨c1,c2,c3⟩:=hs
   have:k=0\/k=1\/k=2:=by omega
   rcases this with rfl|rfl|rfl
   ·exact c1
   ·exact c2
   ·exact c3
  conv=>whnf
  repeat' ((first|refine nI ?_|refine aI ?_|refine tI ?_|refine fI ?_|fail);conv=>whnf)
  exact⟨k+1,sI,by omega,by dsimp only;omega⟩
 ·repeat' ((first|refine nI ?_|refine aI ?_|refine tI ?_|refine fI ?_|fail);conv=>whnf)
  exact⟨rfl,rfl⟩
def wT (p:ap) (s:aN):Prop:=(1<=s.n/\s.n<=1048576)/\(0<=s.t/\s.t<=s.n)/\(0<=s.f/\s.f<=s.n)
def Be (p:ap) (s:aN):Prop:=¬(p.fault=0/\(s.t≠0\/s.f≠0))
def EF (p:ap) (s:aN):Prop:=¬(p.topology=4/\s.n.tmod 2=0)
def Qg (p:ap) (s:aN):Prop:=∀j,j<p.resilience.length->0<=ku (p.resilience.getD j ik) s
def uE (p:ap) (s:aN):Prop:=wT p s/\Be p s/\EF p s/\Qg p s
instance (p:ap) (s:aN):Decidable (wT p s):=inferInstanceAs (Decidable (_/\_))
instance (p:ap) (s:aN):Decidable (Be p s):=inferInstanceAs (Decidable (¬_))
instance (p:ap) (s:aN):Decidable (EF p s):=inferInstanceAs (Decidable (¬_))
instance (p:ap) (s:aN):Decidable (Qg p s):=inferInstanceAs (Decidable (∀j,j<p.resilience.length->_))
instance (p:ap) (s:aN):Decidable (uE p s):=inferInstanceAs (Decidable (_/\_))
theorem KD {p:ap} {s:aN} (h:wT p s):Mu s:=by unfold wT at h;unfold Mu;omega
theorem RD (p:ap) (s:aN) (hp:¬jZ p) (hr:wS p):ab Tryz.prog 254 [.agg (dg p), .agg (gr s)] (fun u=>u= .bool (decide (uE p s))):=by
 have hle:=eX hp
 refine ab.intro ae ag Tryz.func254 rfl (by decide) ?_;(conv=>whnf)
 refine ar rfl ?_
 conv=>whnf
 refine ar rfl ?_
 conv=>whnf
 by_cases hA:wT p s
 case neg=>
  have hno:¬uE p s:=fun h=>hA h.1
  unfold wT at hA
  repeat' ((first|refine nI ?_|refine aI ?_|refine uI ?_|refine vI ?_|refine dI ?_|refine dR ?_|refine dP ?_|refine ar rfl ?_|refine pI _ rfl ?_|refine an _ rfl ?_|refine tI ?_|refine fI ?_|refine ai (fun _=>?_) (fun _=>?_))<;>conv=>whnf)
  all_goals exact⟨aC hno,rfl⟩
 have hz:=KD hA
 have hA2:=hA
 unfold wT at hA2
 by_cases hC:Be p s
 case neg=>
  have hno:¬uE p s:=fun h=>hC h.2.1
  unfold Be at hC
  repeat' ((first|refine nI ?_|refine aI ?_|refine uI ?_|refine vI ?_|refine dI ?_|refine dR ?_|refine dP ?_|refine ar rfl ?_|refine pI _ rfl ?_|refine an _ rfl ?_|refine tI ?_|refine fI ?_|refine ai (fun _=>?_) (fun _=>?_))<;>conv=>whnf)
  all_goals exact⟨aC hno,rfl⟩
 have hC2:=hC
 unfold Be at hC2
 by_cases hD:EF p s
 case neg=>
  have hno:¬uE p s:=fun h=>hD h.2.2.1
  unfold EF at hD
  repeat' ((first|refine nI ?_|refine aI ?_|refine uI ?_|refine vI ?_|refine dI ?_|refine dR ?_|refine dP ?_|refine ar rfl ?_|refine pI _ rfl ?_|refine an _ rfl ?_|refine tI ?_|refine fI ?_|refine ai (fun _=>?_) (fun _=>?_))<;>conv=>whnf)
  all_goals exact⟨aC hno,rfl⟩
 have hD2:=hD
 unfold EF at hD2
 repeat' ((first|refine nI ?_|refine aI ?_|refine uI ?_|refine vI ?_|refine dI ?_|refine dR ?_|refine dP ?_|refine ar rfl ?_|refine pI _ rfl ?_|refine an _ rfl ?_|refine tI ?_|refine fI ?_|refine ai (fun _=>?_) (fun _=>?_))<;>conv=>whnf)
 all_goals
  refine a8.loopF ae ag (fun k:Nat=>k<=p.resilience.length/\∀j,j<k->0<=ku (p.resilience.getD j ik) s) (fun k=>[(69, .int .i64 (k:Int))]) (fun _=>[]) (fun k=>p.resilience.length-k) 0 ⟨by omega,fun j hj=>by omega⟩ ?_;conv=>whnf
  refine⟨sI,?_⟩
  rintro k ⟨hk,ha⟩
  conv=>whnf
  refine ai ?_ ?_<;>(intro h1;conv=>whnf)
  ·refine nI ?_
   rw[tN]
   conv=>whnf
   (refine oP (vv (p.resilience.getD k ik) s (hr k (by omega)) hz) ?_;conv=>whnf)
   refine j9 (by decide) ?_
   conv=>whnf
   refine ai ?_ ?_<;>(intro h2;conv=>whnf)
   ·exact⟨aC (fun h=>by have:=h.2.2.2 k (by omega);omega),rfl⟩
   ·repeat' ((first|refine nI ?_|refine aI ?_|refine tI ?_|refine fI ?_|fail);conv=>whnf)
    refine⟨k+1,sI,⟨by omega,fun j hj=>?_⟩,by dsimp only;omega⟩
    by_cases e:j=k
    ·subst e;omega
    ·exact ha j (by omega)
  ·exact⟨bk ⟨hA,hC,hD,fun j hj=>ha j (by omega)⟩,rfl⟩
theorem Bf {p:ap} (h:aL p=0):wS p:=by
 unfold aL at h
 refine Classical.byContradiction fun hn=>?_
 (repeat' split at h)<;>first|omega|exact absurd ‹¬¬wS p› (fun hh=>hh hn)
def dV (p:ap) (s:aN):Int:=if aL p≠0 then aL p else if¬uE p s then 8 else if 8<s.n then 4 else 0
theorem rn (p:ap) (s:aN) (hp:¬jZ p) (hv:aL p=0):ab Tryz.prog 182 [.agg (dg p), .agg (gr s)] (fun u=>u= .bool (decide (uE p s))):=by
 refine ab.intro ae ag Tryz.func182 rfl (by decide) ?_;(conv=>whnf)
 refine ar rfl ?_
 conv=>whnf
 refine ar rfl ?_
 conv=>whnf
 (refine oP (fN p (wQ hp)) ?_;conv=>whnf)
 refine dQ hv ?_
 conv=>whnf
 refine dC (RD p s hp (Bf hv)) (fun _=>?_) (fun _=>?_)<;>(conv=>whnf)
 ·rename_i h;exact⟨bk h,rfl⟩
 ·rename_i h;exact⟨aC h,rfl⟩
theorem Bg (p:ap) (s:aN) (hp:¬jZ p):ab Tryz.prog 94 [.agg (dg p), .agg (gr s)] (fun u=>u= .int .i64 (dV p s)):=by
 refine ab.intro ae ag Tryz.func94 rfl (by decide) ?_;(conv=>whnf)
 refine ar rfl ?_
 conv=>whnf
 refine ar rfl ?_
 conv=>whnf
 (refine oP (fN p (wQ hp)) ?_;conv=>whnf)
 refine ai ?_ ?_<;>(intro h1;conv=>whnf)
 ·(refine oP (fN p (wQ hp)) ?_;conv=>whnf)
  exact⟨aq (by rw[dV,if_pos h1]),rfl⟩
 have h1:aL p=0:=by omega
 refine dC (rn p s hp h1) (fun _=>?_) (fun _=>?_)<;>(conv=>whnf)
 ·rename_i h2
  refine ai ?_ ?_<;>(intro h3;conv=>whnf)
  ·exact⟨aq (by rw[dV,if_neg (by omega),if_neg (fun h=>h h2),if_pos h3]),rfl⟩
  ·exact⟨aq (by rw[dV,if_neg (by omega),if_neg (fun h=>h h2),if_neg h3]),rfl⟩
 ·rename_i h2
  exact⟨aq (by rw[dV,if_neg (by omega),if_pos h2]),rfl⟩
theorem kv {p:ap} {s:aN} (h:dV p s=0):aL p=0/\uE p s/\1<=s.n/\s.n<=8/\0<=s.t/\s.t<=s.n/\0<=s.f/\s.f<=s.n:=by
 unfold dV at h
 split at h
 ·omega
 ·rename_i h1
  split at h
  ·omega
  ·rename_i h2
   split at h
   ·omega
   ·have h2:uE p s:=Classical.byContradiction h2
    have:=h2.1
    unfold wT at this
    exact⟨by omega,h2,by omega⟩
def iy (p:ap) (s:aN):Int:=if p.fault=3 then s.n-s.f else s.n
theorem y5 (p:ap) (s:aN) (h:0<=s.n/\s.n<=1048576/\0<=s.f/\s.f<=1048576):ab Tryz.prog 184 [.agg (dg p), .agg (gr s)] (fun u=>u= .int .i64 (iy p s)):=by
 refine ab.intro ae ag Tryz.func184 rfl (by decide) ?_;(conv=>whnf)
 refine ar rfl ?_
 conv=>whnf
 refine ar rfl ?_
 conv=>whnf
 repeat' ((first|refine nI ?_|refine aI ?_|refine uI ?_|refine vI ?_|refine dI ?_|refine dR ?_|refine dP ?_|refine ar rfl ?_|refine pI _ rfl ?_|refine an _ rfl ?_|refine tI ?_|refine fI ?_|refine ai (fun _=>?_) (fun _=>?_))<;>conv=>whnf)
 ·rename_i h3;exact⟨aq (by rw[iy,if_pos h3]),rfl⟩
 ·rename_i h3;exact⟨aq (by rw[iy,if_neg h3]),rfl⟩
end Go.Proofs.YtekmminpfhacpaaGreatDoor
