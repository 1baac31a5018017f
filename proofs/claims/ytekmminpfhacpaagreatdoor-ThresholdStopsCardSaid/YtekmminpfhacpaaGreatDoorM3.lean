import Derived.Test.YtekmminpfhacpaaGreatDoorFnT
set_option linter.unusedVariables false
set_option linter.unusedSimpArgs false
namespace Go.Proofs.YtekmminpfhacpaaGreatDoor
set_option maxRecDepth 100000
set_option maxHeartbeats 4000000
def GQ (l:List ByteArray):bP:=.row 9 t0 dQ l
def Eb (l:List ByteArray):List AV:=[.sl t0 dQ l]
theorem GR (n:Nat) (h0:0<n) (hn:n<=1000):am Tryz.prog 287 [.nilsl, .int .i64 (n:Int)] (aj.ofL []) (fun u M=>∃ℓ0,u= .row ℓ0 0 1/\M ℓ0=some (GQ [])):=by
 refine am.intro ac ae [] Tryz.func287 rfl (by decide) ?_
 conv=>whnf
 repeat' ((first|refine nI ?_|refine aI ?_|refine tI ?_|refine fI ?_|fail);conv=>whnf)
 refine DY t0 dQ t0 rfl (by dsimp only;omega) ?_
 conv=>whnf
 repeat' ((first|refine nI ?_|refine aI ?_|refine tI ?_|refine fI ?_|refine EH ?_|fail);conv=>whnf)
 exact⟨25,rfl,rfl⟩
theorem CG (ls:List (List ByteArray)) (hl:ls.length<=10) (h0:0<ls.flatten.length) (hn:ls.flatten.length<=1000):ab Tryz.prog 255 [.sl [] Eb ls] (fun u=>u= .sl t0 dQ ls.flatten):=by
 have hpart:∀i,(ls.take i).flatten.length<=1000:=fun i=>by
  have:ls.flatten=(ls.take i).flatten++(ls.drop i).flatten:=by rw[<-List.flatten_append,List.take_append_drop]
  rw[this] at hn
  simp only[List.length_append] at hn
  omega
 have hsucc:∀i,i<ls.length->(ls.take (i+1)).flatten=(ls.take i).flatten++ls.getD i []:=fun i hi=>by
  rw[bj [] hi,List.flatten_append];simp
 refine ab.intro ac ae Tryz.func255 rfl (by decide) ?_;(conv=>whnf)
 refine aF.loopF ac ae (fun i:Nat=>i<=ls.length) (fun i=>[(11, .int .i64 (i:Int)),(3, .int .i64 ((ls.take i).flatten.length:Int))]) (fun _=>[]) (fun i=>ls.length-i) 0 (by omega) ?_;conv=>whnf
 refine⟨sI,?_⟩
 intro i hi
 conv=>whnf
 refine ag ?_ ?_<;>(intro h1;conv=>whnf)
 ·refine nI ?_
  rw[tN]
  have hs:=hsucc i (by omega)
  have h2:=hpart (i+1)
  rw[hs,List.length_append] at h2
  conv=>whnf
  repeat' ((first|refine nI ?_|refine aI ?_|refine tI ?_|refine fI ?_|fail);conv=>whnf)
  refine⟨i+1,?_,by omega,by dsimp only;omega⟩
  dsimp only
  rw[hs,List.length_append]
  exact sI
 ·obtain rfl:i=ls.length:=by omega
  rw[List.take_length]
  refine am.fresh 24 (GR _ h0 hn) rfl (aa) ?_
  conv=>whnf
  refine aF.loopF ac ae (fun i:Nat=>i<=ls.length) (fun i=>[(27, .int .i64 (i:Int)),(6, .row 1000 (ls.take i).flatten.length 1),(24, .top)]) (fun i=>[(1000,GQ (ls.take i).flatten)]) (fun i=>ls.length-i) 0 (by omega) ?_;conv=>whnf
  refine⟨aR.by_ [(1000, .old 24)] _ 400 rfl (aa) (aa),?_⟩
  intro i hi
  conv=>whnf
  refine ag ?_ ?_<;>(intro h1;conv=>whnf)
  ·refine nI ?_
   rw[tN]
   have hs:=hsucc i (by omega)
   have h2:=hpart (i+1)
   rw[hs,List.length_append] at h2
   conv=>whnf
   refine bQ _ rfl (by dsimp only;omega) ?_
   conv=>whnf
   repeat' ((first|refine nI ?_|refine aI ?_|refine tI ?_|refine fI ?_|fail);conv=>whnf)
   refine⟨i+1,?_,by omega,by dsimp only;omega⟩
   dsimp only
   rw[hs,List.length_append]
   exact aR.by_ [(1000, .old 33)] _ 400 rfl (aa) (aa)
  ·obtain rfl:i=ls.length:=by omega
   rw[List.take_length]
   exact⟨rfl,rfl⟩
def mt (l:List ByteArray):Prop:=∀i,i<l.length->bU (l.getD i t0)/\l.getD i t0∉l.take i
instance (l:List ByteArray):Decidable (mt l):=inferInstanceAs (Decidable (∀i,i<l.length->_))
def cZ (p:an):List ByteArray:=p.states++p.messages++p.values
theorem qi {p:an} (hp:g7 p):∀i,((cZ p).getD i t0).size<=140737488355328:=by
 intro i
 by_cases hi:i<(cZ p).length
 ·have hm:=bi (l:=cZ p) t0 hi
  unfold cZ at hm
  simp only[List.mem_append] at hm
  rcases hm with (h|h)|h
  ·exact hp.ns.1 _ h
  ·exact hp.ns.2.1 _ h
  ·exact hp.ns.2.2 _ h
 ·rw[gD,List.getElem?_eq_none (by omega)];decide
theorem EU (p:an) (hp:g7 p) (hle:p.states.length<=60/\p.messages.length<=60/\p.values.length<=60) (h0:0<p.states.length):ab Tryz.prog 186 [.agg (aB p)] (fun u=>u= .int .i64 (if mt (cZ p) then 0 else 2)):=by
 have hsz:=qi hp
 have hlen:(cZ p).length=p.states.length+p.messages.length+p.values.length:=by simp[cZ];omega
 have hfl:[p.states,p.messages,p.values].flatten=cZ p:=by simp[cZ]
 have hc:=CG [p.states,p.messages,p.values] (by simp) (by rw[hfl];omega) (by rw[hfl];omega)
 rw[hfl] at hc
 refine ab.intro ac ae Tryz.func186 rfl (by decide) ?_;(conv=>whnf)
 refine ak rfl ?_
 conv=>whnf
 refine bD [] Eb [p.states,p.messages,p.values] rfl ?_
 conv=>whnf
 refine am.hand 12 rfl ?_
 (refine oP (hc) ?_;conv=>whnf)
 refine aF.loopF ac ae (fun i:Nat=>i<=(cZ p).length/\∀j,j<i->bU ((cZ p).getD j t0)/\(cZ p).getD j t0∉(cZ p).take j) (fun i=>[(16, .int .i64 (i:Int)),(12, .top)]) (fun _=>[]) (fun i=>(cZ p).length-i) 0 ⟨by omega,fun j hj=>by omega⟩ ?_;conv=>whnf
 refine⟨sI,?_⟩
 rintro i ⟨hi,ha⟩
 conv=>whnf
 refine ag ?_ ?_<;>(intro h1;conv=>whnf)
 ·refine nI ?_
  rw[tN]
  conv=>whnf
  refine dC (dU _ (by have:=hsz i;omega)) (fun _=>?_) (fun _=>?_)<;>(conv=>whnf)
  ·rename_i hv
   refine nI ?_
   rw[tN]
   conv=>whnf
   refine dC (ot _ _ (by simp;omega)) (fun _=>?_) (fun _=>?_)<;>(conv=>whnf)
   ·rename_i hm
    exact⟨ah (by rw[if_neg (fun h:mt (cZ p)=>(h i (by omega)).2 hm)]),rfl⟩
   ·rename_i hm
    repeat' ((first|refine nI ?_|refine aI ?_|refine tI ?_|refine fI ?_|fail);conv=>whnf)
    refine⟨i+1,sI,⟨by omega,fun j hj=>?_⟩,by dsimp only;omega⟩
    by_cases e:j=i
    ·subst e;exact⟨hv,hm⟩
    ·exact ha j (by omega)
  ·rename_i hv
   exact⟨ah (by rw[if_neg (fun h:mt (cZ p)=>hv (h i (by omega)).1)]),rfl⟩
 ·exact⟨ah (by rw[if_pos (show mt (cZ p) from fun j hj=>ha j (by omega))]),rfl⟩
set_option maxHeartbeats 8000000
def gj (p:an):Int:=cb ((List.range p.rules.length).map fun i=>b9 p i (p.rules.getD i aq))
def mU (p:an):Prop:=∀j,j<p.resilience.length->eD (p.resilience.getD j eJ)
instance (p:an):Decidable (mU p):=inferInstanceAs (Decidable (∀j,j<p.resilience.length->_))
def tp (p:an):Int:=cb [bw p.initial p.states.length,(if p.initial.length=0 then 1 else 0),bw p.leader p.states.length,gj p,(if 3<(ar p.rules).length then 4 else 0)]
def aw (p:an):Int:=
 if¬bU p.name then 2 else if p.topology<1\/4<p.topology\/p.fault<0\/3<p.fault then 1 else if p.states.length=0 then 1
 else if 6<p.states.length\/3<p.messages.length\/3<p.values.length\/4<p.resilience.length\/8<p.rules.length then 4
 else if¬mt (cZ p) then 2
 else if(p.topology≠1/\(0<p.messages.length\/0<p.values.length\/0<p.resilience.length\/p.fault≠0))\/(p.topology=1/\0<p.leader.length) then 1
 else if¬mU p then 4 else tp p
theorem ow {n k:Nat} (h:k<n):(List.range n).getD k 0=k:=by
 rw[gD,List.getElem?_range h];rfl
theorem bM:∀{l:List Int},cb l=0->∀x∈l,x=0
 |[],_,x,hx=>by cases hx
 |a::l,h,x,hx=>by
  by_cases ha:a=0
  ·rw[be ha] at h
   rcases List.mem_cons.1 hx with rfl|hx
   ·exact ha
   ·exact bM h x hx
  ·rw[bV ha] at h;omega
theorem gk {p:an} {i:Nat} {r:bC} (h:b9 p i r=0):bU r.name/\dV r.kind p.topology/\¬gu r p.topology/\(0<=r.src/\r.src<p.states.length)/\(0<=r.dst/\r.dst<p.states.length)/\cu p r=0:=by
 unfold b9 at h
 by_cases h1:¬bU r.name\/fG p.rules i r
 ·rw[if_pos h1] at h;omega
 rw[if_neg h1] at h
 by_cases h2:¬dV r.kind p.topology\/gu r p.topology
 ·rw[if_pos h2] at h;omega
 rw[if_neg h2] at h
 have hz:=bM h
 have b1:=hz (ci r.src p.states.length) (by simp)
 have b2:=hz (ci r.dst p.states.length) (by simp)
 unfold ci at b1 b2
 refine⟨Classical.not_not.1 fun e=>h1 (.inl e),Classical.not_not.1 fun e=>h2 (.inl e),fun e=>h2 (.inr e),?_,?_,hz _ (by simp)⟩
 ·split at b1<;>omega
 ·split at b2<;>omega
theorem ox {m:Int} {l:List dB} (h:aZ m l=0):l.length<=2:=by
 unfold aZ at h
 split at h
 ·omega
 ·split at h<;>omega
theorem tq {p:an} {i:Nat} {r:bC} (h:b9 p i r=0):r.guards.length<=2:=by
 obtain⟨_,_,h3,_,_,h6⟩:=gk h
 by_cases k:r.kind=1
 ·unfold cu at h6
  rw[if_pos k] at h6
  exact ox (bM h6 (aZ p.messages.length r.guards) (by simp))
 ·unfold gu at h3;omega
theorem Ec {p:an} (h:gj p=0) (hl:p.rules.length<=8):Gj p:=by
 refine⟨by omega,fun j hj=>?_⟩
 have:=tq (bM h _ (List.mem_map.2 ⟨j,List.mem_range.2 hj,rfl⟩))
 omega
theorem dj (p:an) (hp:g7 p):ab Tryz.prog 99 [.agg (aB p)] (fun u=>u= .int .i64 (aw p)):=by
 have hle:=gZ hp
 have he:=aw.eq_1 p
 refine ab.intro ac ae Tryz.func99 rfl (by decide) ?_;(conv=>whnf)
 refine ak rfl ?_
 conv=>whnf
 refine ag ?_ ?_<;>(intro ht;conv=>whnf)
 all_goals
  refine dC (dU p.name (by omega)) (fun _=>?_) (fun _=>?_)<;>(conv=>whnf)
  case refine_2=>rename_i hv;rw[if_pos hv] at he;exact⟨ah he.symm,rfl⟩
  rename_i hv
  rw[if_neg (fun h=>h hv)] at he
  by_cases hA:p.topology<1\/4<p.topology\/p.fault<0\/3<p.fault
  ·rw[if_pos hA] at he
   repeat' ((first|refine nI ?_|refine aI ?_|refine uI ?_|refine vI ?_|refine dI ?_|refine dR ?_|refine dP ?_|refine ak rfl ?_|refine pI _ rfl ?_|refine ap _ rfl ?_|refine tI ?_|refine fI ?_|refine ag (fun _=>?_) (fun _=>?_))<;>conv=>whnf)
   all_goals exact⟨ah he.symm,rfl⟩
  rw[if_neg hA] at he
  by_cases h0:p.states.length=0
  ·rw[if_pos h0] at he
   repeat' ((first|refine nI ?_|refine aI ?_|refine tI ?_|refine fI ?_|fail);conv=>whnf)
   exact⟨ah he.symm,rfl⟩
  rw[if_neg h0] at he
  by_cases hB:6<p.states.length\/3<p.messages.length\/3<p.values.length\/4<p.resilience.length\/8<p.rules.length
  ·rw[if_pos hB] at he
   repeat' ((first|refine nI ?_|refine aI ?_|refine uI ?_|refine vI ?_|refine dI ?_|refine dR ?_|refine dP ?_|refine ak rfl ?_|refine pI _ rfl ?_|refine ap _ rfl ?_|refine tI ?_|refine fI ?_|refine ag (fun _=>?_) (fun _=>?_))<;>conv=>whnf)
   all_goals exact⟨ah he.symm,rfl⟩
  rw[if_neg hB] at he
  repeat' ((first|refine nI ?_|refine aI ?_|refine tI ?_|refine fI ?_|fail);conv=>whnf)
  (refine oP (EU p hp (by omega) (by omega)) ?_;conv=>whnf)
  by_cases hN:mt (cZ p)
  case neg=>
   rw[if_pos hN] at he
   rw[if_neg hN]
   repeat' ((first|refine nI ?_|refine aI ?_|refine tI ?_|refine fI ?_|fail);conv=>whnf)
   exact⟨ah he.symm,rfl⟩
  rw[if_neg (fun h=>h hN)] at he
  rw[if_pos hN]
  by_cases hC:(p.topology≠1/\(0<p.messages.length\/0<p.values.length\/0<p.resilience.length\/p.fault≠0))\/(p.topology=1/\0<p.leader.length)
  ·rw[if_pos hC] at he
   repeat' ((first|refine nI ?_|refine aI ?_|refine uI ?_|refine vI ?_|refine dI ?_|refine dR ?_|refine dP ?_|refine ak rfl ?_|refine pI _ rfl ?_|refine ap _ rfl ?_|refine tI ?_|refine fI ?_|refine ag (fun _=>?_) (fun _=>?_))<;>conv=>whnf)
   all_goals exact⟨ah he.symm,rfl⟩
  rw[if_neg hC] at he
  repeat' ((first|refine nI ?_|refine aI ?_|refine tI ?_|refine fI ?_|fail);conv=>whnf)
  refine aF.loopF ac ae (fun k:Nat=>k<=p.resilience.length/\∀j,j<k->eD (p.resilience.getD j eJ)) (fun k=>[(113, .int .i64 (k:Int))]) (fun _=>[]) (fun k=>p.resilience.length-k) 0 ⟨by omega,fun j hj=>by omega⟩ ?_;conv=>whnf
  refine⟨sI,?_⟩
  rintro k ⟨hk,ha⟩
  conv=>whnf
  refine ag ?_ ?_<;>(intro h1;conv=>whnf)
  ·refine nI ?_
   rw[tN]
   conv=>whnf
   refine dC (lu (p.resilience.getD k eJ)) (fun _=>?_) (fun _=>?_)<;>(conv=>whnf)
   ·rename_i hb
    repeat' ((first|refine nI ?_|refine aI ?_|refine tI ?_|refine fI ?_|fail);conv=>whnf)
    refine⟨k+1,sI,⟨by omega,fun j hj=>?_⟩,by dsimp only;omega⟩
    by_cases e:j=k
    ·subst e;exact hb
    ·exact ha j (by omega)
   ·rename_i hb
    rw[if_pos (fun h:mU p=>hb (h k (by omega)))] at he
    exact⟨ah he.symm,rfl⟩
  rw[if_neg (fun h=>h (show mU p from fun j hj=>ha j (by omega))),tp] at he
  refine dI ?_
  conv=>whnf
  (refine oC (kB p.initial _ (by omega)) ?_;conv=>whnf)
  have hf:∀x:Int,x=(if p.initial.length=0 then 1 else 0)->aw p=if cb [bw p.initial p.states.length,x,bw p.leader p.states.length]≠0 then cb [bw p.initial p.states.length,x,bw p.leader p.states.length] else cb [gj p,(if 3<(ar p.rules).length then 4 else 0)]:=by
   rintro x rfl
   rw[he,show[bw p.initial p.states.length,(if p.initial.length=0 then(1:Int) else 0),bw p.leader p.states.length,gj p,(if 3<(ar p.rules).length then 4 else 0)]=[bw p.initial p.states.length,(if p.initial.length=0 then(1:Int) else 0),bw p.leader p.states.length]++[gj p,(if 3<(ar p.rules).length then 4 else 0)] from rfl,zU]
  clear he
  by_cases hI:p.initial.length=0
  ·have hx:=hf 1 (by rw[if_pos hI])
   repeat' ((first|refine nI ?_|refine aI ?_|refine tI ?_|refine fI ?_|fail);conv=>whnf)
   (refine oC (gP 1) ?_;conv=>whnf)
   (refine oC (kB p.leader _ (by omega)) ?_;conv=>whnf)
   refine cX ?_
   conv=>whnf
   (refine oC (cd _ (by simp)) ?_;conv=>whnf)
   refine ag ?_ ?_<;>(intro h1;conv=>whnf)
   ·rw[if_pos h1] at hx;exact⟨ah hx.symm,rfl⟩
   ·exfalso
    apply h1
    simp only[cb]
    (repeat' split)<;>omega
  have hx:=hf 0 (by rw[if_neg hI])
  repeat' ((first|refine nI ?_|refine aI ?_|refine tI ?_|refine fI ?_|fail);conv=>whnf)
  (refine oC (fO 1) ?_;conv=>whnf)
  (refine oC (kB p.leader _ (by omega)) ?_;conv=>whnf)
  refine cX ?_
  conv=>whnf
  (refine oC (cd _ (by simp)) ?_;conv=>whnf)
  refine ag ?_ ?_<;>(intro h1;conv=>whnf)
  ·rw[if_pos h1] at hx;exact⟨ah hx.symm,rfl⟩
  rw[if_neg h1] at hx
  refine aF.loopF ac ae (fun k:Nat=>k<=p.rules.length/\gj p=cb (((List.range p.rules.length).drop k).map fun i=>b9 p i (p.rules.getD i aq))) (fun k=>[(142, .int .i64 (k:Int))]) (fun _=>[]) (fun k=>p.rules.length-k) 0 ⟨by omega,rfl⟩ ?_;conv=>whnf
  refine⟨sI,?_⟩
  rintro k ⟨hk,hr⟩
  conv=>whnf
  refine ag ?_ ?_<;>(intro h2;conv=>whnf)
  ·rw[di _ 0 (by simp;omega),ow (by omega)] at hr
   (refine oP (u3 p k hp (by omega)) ?_;conv=>whnf)
   refine ag ?_ ?_<;>(intro h3;conv=>whnf)
   ·rw[if_pos h3] at hr
    rw[hr,bV h3] at hx
    exact⟨ah hx.symm,rfl⟩
   ·rw[if_neg h3] at hr
    repeat' ((first|refine nI ?_|refine aI ?_|refine tI ?_|refine fI ?_|fail);conv=>whnf)
    exact⟨k+1,sI,⟨by omega,hr⟩,by dsimp only;omega⟩
  obtain rfl:k=p.rules.length:=by omega
  rw[List.drop_of_length_le (by simp)] at hr
  rw[be hr] at hx
  (refine oP (mN p (Ec (show gj p=0 from hr) (by omega))) ?_;conv=>whnf)
  refine ag ?_ ?_<;>(intro h3;conv=>whnf)
  ·rw[if_pos (by omega)] at hx
   (refine oP (gP 4) ?_;conv=>whnf)
   exact⟨ah hx.symm,rfl⟩
  ·rw[if_neg (by omega)] at hx
   (refine oP (fO 4) ?_;conv=>whnf)
   exact⟨ah hx.symm,rfl⟩
theorem f6 (p:an) (hp:g7 p):ab Tryz.prog 113 [.agg (aB p)] (fun u=>u= .int .i64 (aw p)):=by
 have hle:=gZ hp
 have he:=aw.eq_1 p
 have hsz:=qi hp
 have hlen:(cZ p).length=p.states.length+p.messages.length+p.values.length:=by simp[cZ];omega
 refine ab.intro ac ae Tryz.func113 rfl (by decide) ?_;(conv=>whnf)
 refine ak rfl ?_
 conv=>whnf
 refine dC (iU p.name (by omega)) (fun _=>?_) (fun _=>?_)<;>(conv=>whnf)
 case refine_2=>rename_i hv;rw[if_pos hv] at he;exact⟨ah he.symm,rfl⟩
 rename_i hv
 rw[if_neg (fun h=>h hv)] at he
 refine dC (aL _ _ _) (fun _=>?_) (fun _=>?_)<;>(conv=>whnf)
 case refine_2=>rename_i h;rw[if_pos (by omega)] at he;exact⟨ah he.symm,rfl⟩
 rename_i hA1
 refine dC (aL _ _ _) (fun _=>?_) (fun _=>?_)<;>(conv=>whnf)
 case refine_2=>rename_i h;rw[if_pos (by omega)] at he;exact⟨ah he.symm,rfl⟩
 rename_i hA2
 rw[if_neg (by omega)] at he
 by_cases h0:p.states.length=0
 ·rw[if_pos h0] at he
  repeat' ((first|refine nI ?_|refine aI ?_|refine tI ?_|refine fI ?_|fail);conv=>whnf)
  exact⟨ah he.symm,rfl⟩
 rw[if_neg h0] at he
 by_cases hB:6<p.states.length\/3<p.messages.length\/3<p.values.length\/4<p.resilience.length\/8<p.rules.length
 ·rw[if_pos hB] at he
  repeat' ((first|refine nI ?_|refine aI ?_|refine uI ?_|refine vI ?_|refine dI ?_|refine dR ?_|refine dP ?_|refine ak rfl ?_|refine pI _ rfl ?_|refine ap _ rfl ?_|refine tI ?_|refine fI ?_|refine ag (fun _=>?_) (fun _=>?_))<;>conv=>whnf)
  all_goals exact⟨ah he.symm,rfl⟩
 rw[if_neg hB] at he
 repeat' ((first|refine nI ?_|refine aI ?_|refine tI ?_|refine fI ?_|fail);conv=>whnf)
 refine dP ?_
 conv=>whnf
 refine bD t0 dQ [] rfl ?_
 conv=>whnf
 refine fu ?_
 conv=>whnf
 refine bQ _ rfl (by dsimp only;simp only[List.length_nil];omega) ?_
 conv=>whnf
 refine bQ _ rfl (by simp only[List.length_append,List.length_nil];omega) ?_
 conv=>whnf
 refine bQ _ rfl (by simp only[List.length_append,List.length_nil];omega) ?_
 conv=>whnf
 refine aF.loopF ac ae (fun i:Nat=>i<=(cZ p).length/\∀j,j<i->bU ((cZ p).getD j t0)/\(cZ p).getD j t0∉(cZ p).take j) (fun i=>[(4, .int .i64 (i:Int)),(3, .sl t0 dQ (cZ p)),(56, .top),(59, .top),(62, .top),(65, .top)]) (fun _=>[]) (fun i=>(cZ p).length-i) 0 ⟨by omega,fun j hj=>by omega⟩ ?_;conv=>whnf
 refine⟨aR.leak 65 rfl (aR.by_ [] [] 400 rfl trivial (aa)),?_⟩
 rintro i ⟨hi,ha⟩
 conv=>whnf
 refine ag ?_ ?_<;>(intro h1;conv=>whnf)
 ·refine dI ?_
  conv=>whnf
  refine nI ?_
  rw[tN]
  conv=>whnf
  refine dD (iU _ (by have:=hsz i;omega)) (fun _=>?_) (fun _=>?_)<;>(conv=>whnf)
  ·rename_i hv
   refine nI ?_
   rw[tN]
   conv=>whnf
   refine nI ?_
   rw[tN]
   conv=>whnf
   refine dD (th _ _ (by simp;omega)) (fun _=>?_) (fun _=>?_)<;>(conv=>whnf)
   ·rename_i hm
    rw[if_pos (fun h:mt (cZ p)=>(h i (by omega)).2 hm)] at he
    exact⟨ah he.symm,rfl⟩
   ·rename_i hm
    repeat' ((first|refine nI ?_|refine aI ?_|refine tI ?_|refine fI ?_|fail);conv=>whnf)
    refine⟨i+1,sI,⟨by omega,fun j hj=>?_⟩,by dsimp only;omega⟩
    by_cases e:j=i
    ·subst e;exact⟨hv,hm⟩
    ·exact ha j (by omega)
  ·rename_i hv
   rw[if_pos (fun h:mt (cZ p)=>hv (h i (by omega)).1)] at he
   exact⟨ah he.symm,rfl⟩
 rw[if_neg (fun h=>h (show mt (cZ p) from fun j hj=>ha j (by omega)))] at he
 by_cases hC:(p.topology≠1/\(0<p.messages.length\/0<p.values.length\/0<p.resilience.length\/p.fault≠0))\/(p.topology=1/\0<p.leader.length)
 ·rw[if_pos hC] at he
  repeat' ((first|refine nI ?_|refine aI ?_|refine uI ?_|refine vI ?_|refine dI ?_|refine dR ?_|refine dP ?_|refine ak rfl ?_|refine pI _ rfl ?_|refine ap _ rfl ?_|refine tI ?_|refine fI ?_|refine ag (fun _=>?_) (fun _=>?_))<;>conv=>whnf)
  all_goals exact⟨ah he.symm,rfl⟩
 rw[if_neg hC] at he
 refine ag ?_ ?_<;>(intro ht;conv=>whnf)
 all_goals
  repeat' ((first|refine nI ?_|refine aI ?_|refine tI ?_|refine fI ?_|fail);conv=>whnf)
  refine aF.loopF ac ae (fun k:Nat=>k<=p.resilience.length/\∀j,j<k->eD (p.resilience.getD j eJ)) (fun k=>[(5, .int .i64 (k:Int))]) (fun _=>[]) (fun k=>p.resilience.length-k) 0 ⟨by omega,fun j hj=>by omega⟩ ?_;conv=>whnf
  refine⟨sI,?_⟩
  rintro k ⟨hk,ha⟩
  conv=>whnf
  refine ag ?_ ?_<;>(intro h1;conv=>whnf)
  ·refine nI ?_
   rw[tN]
   conv=>whnf
   refine dC (ET (p.resilience.getD k eJ)) (fun _=>?_) (fun _=>?_)<;>(conv=>whnf)
   ·rename_i hb
    repeat' ((first|refine nI ?_|refine aI ?_|refine tI ?_|refine fI ?_|fail);conv=>whnf)
    refine⟨k+1,sI,⟨by omega,fun j hj=>?_⟩,by dsimp only;omega⟩
    by_cases e:j=k
    ·subst e;exact hb
    ·exact ha j (by omega)
   ·rename_i hb
    rw[if_pos (fun h:mU p=>hb (h k (by omega)))] at he
    exact⟨ah he.symm,rfl⟩
  rw[if_neg (fun h=>h (show mU p from fun j hj=>ha j (by omega))),tp] at he
  (refine oP (oq p.initial _ (by omega) (by omega)) ?_;conv=>whnf)
  refine ag ?_ ?_<;>(intro hx;conv=>whnf)
  ·exact⟨ah (by rw[he,bV hx]),rfl⟩
  rw[be (by omega)] at he
  refine ag ?_ ?_<;>(intro hx;conv=>whnf)
  ·exact⟨ah (by rw[he,if_pos (by omega),bV (by decide)]),rfl⟩
  rw[if_neg (by omega),be rfl] at he
  (refine oP (oq p.leader _ (by omega) (by omega)) ?_;conv=>whnf)
  refine ag ?_ ?_<;>(intro hx;conv=>whnf)
  ·exact⟨ah (by rw[he,bV hx]),rfl⟩
  rw[be (by omega)] at he
  refine aF.loopF ac ae (fun k:Nat=>k<=p.rules.length/\gj p=cb (((List.range p.rules.length).drop k).map fun i=>b9 p i (p.rules.getD i aq))) (fun k=>[(8, .int .i64 (k:Int))]) (fun _=>[]) (fun k=>p.rules.length-k) 0 ⟨by omega,rfl⟩ ?_;conv=>whnf
  refine⟨sI,?_⟩
  rintro k ⟨hk,hr⟩
  conv=>whnf
  refine ag ?_ ?_<;>(intro h2;conv=>whnf)
  ·rw[di _ 0 (by simp;omega),ow (by omega)] at hr
   (refine oP (GP p k hp (by omega)) ?_;conv=>whnf)
   refine ag ?_ ?_<;>(intro h3;conv=>whnf)
   ·rw[if_pos h3] at hr
    rw[hr,bV h3] at he
    exact⟨ah he.symm,rfl⟩
   ·rw[if_neg h3] at hr
    repeat' ((first|refine nI ?_|refine aI ?_|refine tI ?_|refine fI ?_|fail);conv=>whnf)
    exact⟨k+1,sI,⟨by omega,hr⟩,by dsimp only;omega⟩
  obtain rfl:k=p.rules.length:=by omega
  rw[List.drop_of_length_le (by simp)] at hr
  rw[be hr] at he
  (refine oP (qe p (Ec (show gj p=0 from hr) (by omega))) ?_;conv=>whnf)
  refine ag ?_ ?_<;>(intro h3;conv=>whnf)
  ·rw[if_pos (by omega)] at he
   exact⟨ah he.symm,rfl⟩
  ·rw[if_neg (by omega)] at he
   exact⟨ah he.symm,rfl⟩
structure aC where
 n:Int
 t:Int
 f:Int
def bv (s:aC):List AV:=[.int .i64 s.n, .int .i64 s.t, .int .i64 s.f]
def lx (l:kK) (s:aC):Int:=l.c+l.n*s.n+l.t*s.t+l.f*s.f
def zV (s:aC):Prop:=(0<=s.n/\s.n<=1048576)/\(0<=s.t/\s.t<=1048576)/\(0<=s.f/\s.f<=1048576)
theorem zW {a b:Int} (ha:cB a) (hb:0<=b/\b<=1048576):-104857600<=a*b/\a*b<=104857600:=by
 unfold cB at ha
 have h1:a*b<=100*b:=Int.mul_le_mul_of_nonneg_right ha.2 hb.1
 have h2:-100*b<=a*b:=Int.mul_le_mul_of_nonneg_right ha.1 hb.1
 omega
theorem ws {l:kK} {s:aC} (hl:eD l) (hs:zV s):(-104857600<=l.n*s.n/\l.n*s.n<=104857600)/\(-104857600<=l.t*s.t/\l.t*s.t<=104857600)/\(-104857600<=l.f*s.f/\l.f*s.f<=104857600)/\(-100<=l.c/\l.c<=100):=
 ⟨zW hl.2.1 hs.1,zW hl.2.2.1 hs.2.1,zW hl.2.2.2 hs.2.2,hl.1⟩
theorem qj (l:kK) (s:aC) (hl:eD l) (hs:zV s):ab Tryz.prog 173 [.agg (bT l), .agg (bv s)] (fun u=>u= .tup [.int .i64 (lx l s), .int .i64 0]):=by
 obtain⟨b1,b2,b3,b4⟩:=ws hl hs
 refine ab.intro ac ae Tryz.func173 rfl (by decide) ?_;(conv=>whnf)
 refine ak rfl ?_
 conv=>whnf
 refine ak rfl ?_
 conv=>whnf
 refine dC (lu l) (fun _=>?_) (fun _=>?_)<;>(conv=>whnf)
 case refine_2=>rename_i h;exact absurd hl h
 refine aF.loopF ac ae (fun k:Nat=>k<=3) (fun k=>[(19, .int .i64 (k:Int))]) (fun _=>[(17, .row 3 0 ao [s.n,s.t,s.f])]) (fun k=>3-k) 0 (by omega) ?_;conv=>whnf
 refine⟨sI,?_⟩
 intro k hk
 conv=>whnf
 refine ag ?_ ?_<;>(intro h1;conv=>whnf)
 ·refine nI ?_
  rw[tN]
  have hx:0<=[s.n,s.t,s.f].getD k 0/\[s.n,s.t,s.f].getD k 0<=1048576:=by
   obtain⟨c1,c2,c3⟩:=hs
   have:k=0\/k=1\/k=2:=by omega
   rcases this with rfl|rfl|rfl
   ·exact c1
   ·exact c2
   ·exact c3
  conv=>whnf
  repeat' ((first|refine nI ?_|refine aI ?_|refine tI ?_|refine fI ?_|fail);conv=>whnf)
  exact⟨k+1,sI,by omega,by dsimp only;omega⟩
 ·repeat' ((first|refine nI ?_|refine aI ?_|refine tI ?_|refine fI ?_|fail);conv=>whnf)
  exact⟨rfl,rfl⟩
theorem zX (l:kK) (s:aC) (hl:eD l) (hs:zV s):ab Tryz.prog 237 [.agg (bT l), .agg (bv s)] (fun u=>u= .int .i64 (lx l s)):=by
 obtain⟨b1,b2,b3,b4⟩:=ws hl hs
 refine ab.intro ac ae Tryz.func237 rfl (by decide) ?_;(conv=>whnf)
 refine ak rfl ?_
 conv=>whnf
 refine ak rfl ?_
 conv=>whnf
 repeat' ((first|refine nI ?_|refine aI ?_|refine tI ?_|refine fI ?_|fail);conv=>whnf)
 exact⟨rfl,rfl⟩
def px (p:an) (s:aC):Prop:=(1<=s.n/\s.n<=1048576)/\(0<=s.t/\s.t<=s.n)/\(0<=s.f/\s.f<=s.n)
def py (p:an) (s:aC):Prop:=¬(p.fault=0/\(s.t≠0\/s.f≠0))
def tu (p:an) (s:aC):Prop:=¬(p.topology=4/\s.n.tmod 2=0)
def EV (p:an) (s:aC):Prop:=∀j,j<p.resilience.length->0<=lx (p.resilience.getD j eJ) s
def jA (p:an) (s:aC):Prop:=px p s/\py p s/\tu p s/\EV p s
instance (p:an) (s:aC):Decidable (px p s):=inferInstanceAs (Decidable (_/\_))
instance (p:an) (s:aC):Decidable (py p s):=inferInstanceAs (Decidable (¬_))
instance (p:an) (s:aC):Decidable (tu p s):=inferInstanceAs (Decidable (¬_))
instance (p:an) (s:aC):Decidable (EV p s):=inferInstanceAs (Decidable (∀j,j<p.resilience.length->_))
instance (p:an) (s:aC):Decidable (jA p s):=inferInstanceAs (Decidable (_/\_))
theorem wt {p:an} {s:aC} (h:px p s):zV s:=by unfold px at h;unfold zV;omega
theorem HN (p:an) (s:aC) (hp:¬cp p) (hr:mU p):ab Tryz.prog 254 [.agg (aB p), .agg (bv s)] (fun u=>u= .bool (decide (jA p s))):=by
 have hle:=aO hp
 refine ab.intro ac ae Tryz.func254 rfl (by decide) ?_;(conv=>whnf)
 refine ak rfl ?_
 conv=>whnf
 refine ak rfl ?_
 conv=>whnf
 by_cases hA:px p s
 case neg=>
  have hno:¬jA p s:=fun h=>hA h.1
  unfold px at hA
  repeat' ((first|refine nI ?_|refine aI ?_|refine uI ?_|refine vI ?_|refine dI ?_|refine dR ?_|refine dP ?_|refine ak rfl ?_|refine pI _ rfl ?_|refine ap _ rfl ?_|refine tI ?_|refine fI ?_|refine ag (fun _=>?_) (fun _=>?_))<;>conv=>whnf)
  all_goals exact⟨al hno,rfl⟩
 have hz:=wt hA
 have hA2:=hA
 unfold px at hA2
 by_cases hC:py p s
 case neg=>
  have hno:¬jA p s:=fun h=>hC h.2.1
  unfold py at hC
  repeat' ((first|refine nI ?_|refine aI ?_|refine uI ?_|refine vI ?_|refine dI ?_|refine dR ?_|refine dP ?_|refine ak rfl ?_|refine pI _ rfl ?_|refine ap _ rfl ?_|refine tI ?_|refine fI ?_|refine ag (fun _=>?_) (fun _=>?_))<;>conv=>whnf)
  all_goals exact⟨al hno,rfl⟩
 have hC2:=hC
 unfold py at hC2
 by_cases hD:tu p s
 case neg=>
  have hno:¬jA p s:=fun h=>hD h.2.2.1
  unfold tu at hD
  repeat' ((first|refine nI ?_|refine aI ?_|refine uI ?_|refine vI ?_|refine dI ?_|refine dR ?_|refine dP ?_|refine ak rfl ?_|refine pI _ rfl ?_|refine ap _ rfl ?_|refine tI ?_|refine fI ?_|refine ag (fun _=>?_) (fun _=>?_))<;>conv=>whnf)
  all_goals exact⟨al hno,rfl⟩
 have hD2:=hD
 unfold tu at hD2
 repeat' ((first|refine nI ?_|refine aI ?_|refine uI ?_|refine vI ?_|refine dI ?_|refine dR ?_|refine dP ?_|refine ak rfl ?_|refine pI _ rfl ?_|refine ap _ rfl ?_|refine tI ?_|refine fI ?_|refine ag (fun _=>?_) (fun _=>?_))<;>conv=>whnf)
 all_goals
  refine aF.loopF ac ae (fun k:Nat=>k<=p.resilience.length/\∀j,j<k->0<=lx (p.resilience.getD j eJ) s) (fun k=>[(69, .int .i64 (k:Int))]) (fun _=>[]) (fun k=>p.resilience.length-k) 0 ⟨by omega,fun j hj=>by omega⟩ ?_;conv=>whnf
  refine⟨sI,?_⟩
  rintro k ⟨hk,ha⟩
  conv=>whnf
  refine ag ?_ ?_<;>(intro h1;conv=>whnf)
  ·refine nI ?_
   rw[tN]
   conv=>whnf
   (refine oP (qj (p.resilience.getD k eJ) s (hr k (by omega)) hz) ?_;conv=>whnf)
   refine iA (by decide) ?_
   conv=>whnf
   refine ag ?_ ?_<;>(intro h2;conv=>whnf)
   ·exact⟨al (fun h=>by have:=h.2.2.2 k (by omega);omega),rfl⟩
   ·repeat' ((first|refine nI ?_|refine aI ?_|refine tI ?_|refine fI ?_|fail);conv=>whnf)
    refine⟨k+1,sI,⟨by omega,fun j hj=>?_⟩,by dsimp only;omega⟩
    by_cases e:j=k
    ·subst e;omega
    ·exact ha j (by omega)
  ·exact⟨av ⟨hA,hC,hD,fun j hj=>ha j (by omega)⟩,rfl⟩
theorem GS {n:Int} (h:0<=n):n.tmod 2=0\/n.tmod 2=1:=by
 rw[Int.tmod_eq_emod_of_nonneg h];omega
theorem jB (p:an) (s:aC) (hp:¬cp p) (hr:mU p):ab Tryz.prog 227 [.agg (aB p), .agg (bv s)] (fun u=>u= .bool (decide (jA p s))):=by
 have hle:=aO hp
 refine ab.intro ac ae Tryz.func227 rfl (by decide) ?_;(conv=>whnf)
 refine ak rfl ?_
 conv=>whnf
 refine ak rfl ?_
 conv=>whnf
 refine dC (aL _ _ _) (fun _=>?_) (fun _=>?_)<;>(conv=>whnf)
 case refine_2=>rename_i h;exact⟨al (fun hh=>h hh.1.1),rfl⟩
 rename_i a1
 refine dC (aL _ _ _) (fun _=>?_) (fun _=>?_)<;>(conv=>whnf)
 case refine_2=>rename_i h;exact⟨al (fun hh=>h hh.1.2.1),rfl⟩
 rename_i a2
 refine dC (aL _ _ _) (fun _=>?_) (fun _=>?_)<;>(conv=>whnf)
 case refine_2=>rename_i h;exact⟨al (fun hh=>h hh.1.2.2),rfl⟩
 rename_i a3
 have hA:px p s:=⟨a1,a2,a3⟩
 have hz:=wt hA
 have ht:=GS (n:=s.n) (by omega)
 refine aF.loopF ac ae (fun k:Nat=>k<=p.resilience.length/\∀j,j<k->0<=lx (p.resilience.getD j eJ) s) (fun k=>[(5, .int .i64 (k:Int))]) (fun _=>[]) (fun k=>p.resilience.length-k) 0 ⟨by omega,fun j hj=>by omega⟩ ?_;conv=>whnf
 refine⟨sI,?_⟩
 rintro k ⟨hk,ha⟩
 conv=>whnf
 refine ag ?_ ?_<;>(intro h1;conv=>whnf)
 ·refine dI ?_
  conv=>whnf
  refine nI ?_
  rw[tN]
  conv=>whnf
  (refine oC (zX (p.resilience.getD k eJ) s (hr k (by omega)) hz) ?_;conv=>whnf)
  refine ag ?_ ?_<;>(intro h2;conv=>whnf)
  ·exact⟨al (fun h=>by have:=h.2.2.2 k (by omega);omega),rfl⟩
  ·repeat' ((first|refine nI ?_|refine aI ?_|refine tI ?_|refine fI ?_|fail);conv=>whnf)
   refine⟨k+1,sI,⟨by omega,fun j hj=>?_⟩,by dsimp only;omega⟩
   by_cases e:j=k
   ·subst e;omega
   ·exact ha j (by omega)
 have hE:EV p s:=fun j hj=>ha j (by omega)
 by_cases hC:py p s
 case neg=>
  have hno:¬jA p s:=fun h=>hC h.2.1
  unfold py at hC
  repeat' ((first|refine nI ?_|refine aI ?_|refine uI ?_|refine vI ?_|refine dI ?_|refine dR ?_|refine dP ?_|refine ak rfl ?_|refine pI _ rfl ?_|refine ap _ rfl ?_|refine tI ?_|refine fI ?_|refine ag (fun _=>?_) (fun _=>?_))<;>conv=>whnf)
  all_goals exact⟨al hno,rfl⟩
 by_cases hD:tu p s
 case neg=>
  have hno:¬jA p s:=fun h=>hD h.2.2.1
  unfold py at hC
  unfold tu at hD
  repeat' ((first|refine nI ?_|refine aI ?_|refine uI ?_|refine vI ?_|refine dI ?_|refine dR ?_|refine dP ?_|refine ak rfl ?_|refine pI _ rfl ?_|refine ap _ rfl ?_|refine tI ?_|refine fI ?_|refine ag (fun _=>?_) (fun _=>?_))<;>conv=>whnf)
  all_goals exact⟨al hno,rfl⟩
 have hyes:jA p s:=⟨hA,hC,hD,hE⟩
 unfold py at hC
 unfold tu at hD
 repeat' ((first|refine nI ?_|refine aI ?_|refine uI ?_|refine vI ?_|refine dI ?_|refine dR ?_|refine dP ?_|refine ak rfl ?_|refine pI _ rfl ?_|refine ap _ rfl ?_|refine tI ?_|refine fI ?_|refine ag (fun _=>?_) (fun _=>?_))<;>conv=>whnf)
 all_goals exact⟨av hyes,rfl⟩
theorem iV {p:an} (h:aw p=0):mU p:=by
 unfold aw at h
 refine Classical.byContradiction fun hn=>?_
 (repeat' split at h)<;>first|omega|exact absurd ‹¬¬mU p› (fun hh=>hh hn)
def aJ (p:an) (s:aC):Int:=if aw p≠0 then aw p else if¬jA p s then 8 else if 8<s.n then 4 else 0
theorem jC (p:an) (s:aC) (hp:¬cp p) (hv:aw p=0):ab Tryz.prog 182 [.agg (aB p), .agg (bv s)] (fun u=>u= .bool (decide (jA p s))):=by
 refine ab.intro ac ae Tryz.func182 rfl (by decide) ?_;(conv=>whnf)
 refine ak rfl ?_
 conv=>whnf
 refine ak rfl ?_
 conv=>whnf
 (refine oP (dj p (iT hp)) ?_;conv=>whnf)
 refine eI hv ?_
 conv=>whnf
 refine dC (HN p s hp (iV hv)) (fun _=>?_) (fun _=>?_)<;>(conv=>whnf)
 ·rename_i h;exact⟨av h,rfl⟩
 ·rename_i h;exact⟨al h,rfl⟩
theorem kC (p:an) (s:aC) (hp:¬cp p):ab Tryz.prog 94 [.agg (aB p), .agg (bv s)] (fun u=>u= .int .i64 (aJ p s)):=by
 refine ab.intro ac ae Tryz.func94 rfl (by decide) ?_;(conv=>whnf)
 refine ak rfl ?_
 conv=>whnf
 refine ak rfl ?_
 conv=>whnf
 (refine oP (dj p (iT hp)) ?_;conv=>whnf)
 refine ag ?_ ?_<;>(intro h1;conv=>whnf)
 ·(refine oP (dj p (iT hp)) ?_;conv=>whnf)
  exact⟨ah (by rw[aJ,if_pos h1]),rfl⟩
 have h1:aw p=0:=by omega
 refine dC (jC p s hp h1) (fun _=>?_) (fun _=>?_)<;>(conv=>whnf)
 ·rename_i h2
  refine ag ?_ ?_<;>(intro h3;conv=>whnf)
  ·exact⟨ah (by rw[aJ,if_neg (by omega),if_neg (fun h=>h h2),if_pos h3]),rfl⟩
  ·exact⟨ah (by rw[aJ,if_neg (by omega),if_neg (fun h=>h h2),if_neg h3]),rfl⟩
 ·rename_i h2
  exact⟨ah (by rw[aJ,if_neg (by omega),if_pos h2]),rfl⟩
theorem zY (p:an) (s:aC) (hp:¬cp p):ab Tryz.prog 144 [.agg (aB p), .agg (bv s)] (fun u=>u= .int .i64 (aJ p s)):=by
 refine ab.intro ac ae Tryz.func144 rfl (by decide) ?_;(conv=>whnf)
 refine ak rfl ?_
 conv=>whnf
 refine ak rfl ?_
 conv=>whnf
 (refine oP (f6 p (iT hp)) ?_;conv=>whnf)
 refine ag ?_ ?_<;>(intro h1;conv=>whnf)
 ·exact⟨ah (by rw[aJ,if_pos h1]),rfl⟩
 have h1:aw p=0:=by omega
 refine dC (jB p s hp (iV h1)) (fun _=>?_) (fun _=>?_)<;>(conv=>whnf)
 ·rename_i h2
  refine ag ?_ ?_<;>(intro h3;conv=>whnf)
  ·exact⟨ah (by rw[aJ,if_neg (by omega),if_neg (fun h=>h h2),if_pos h3]),rfl⟩
  ·exact⟨ah (by rw[aJ,if_neg (by omega),if_neg (fun h=>h h2),if_neg h3]),rfl⟩
 ·rename_i h2
  exact⟨ah (by rw[aJ,if_neg (by omega),if_pos h2]),rfl⟩
theorem c8 {p:an} {s:aC} (h:aJ p s=0):aw p=0/\jA p s/\1<=s.n/\s.n<=8/\0<=s.t/\s.t<=s.n/\0<=s.f/\s.f<=s.n:=by
 unfold aJ at h
 split at h
 ·omega
 ·rename_i h1
  split at h
  ·omega
  ·rename_i h2
   split at h
   ·omega
   ·have h2:jA p s:=Classical.byContradiction h2
    have:=h2.1
    unfold px at this
    exact⟨by omega,h2,by omega⟩
def io (p:an) (s:aC):Int:=if p.fault=3 then s.n-s.f else s.n
theorem tv (p:an) (s:aC) (h:0<=s.n/\s.n<=1048576/\0<=s.f/\s.f<=1048576):ab Tryz.prog 184 [.agg (aB p), .agg (bv s)] (fun u=>u= .int .i64 (io p s)):=by
 refine ab.intro ac ae Tryz.func184 rfl (by decide) ?_;(conv=>whnf)
 refine ak rfl ?_
 conv=>whnf
 refine ak rfl ?_
 conv=>whnf
 repeat' ((first|refine nI ?_|refine aI ?_|refine uI ?_|refine vI ?_|refine dI ?_|refine dR ?_|refine dP ?_|refine ak rfl ?_|refine pI _ rfl ?_|refine ap _ rfl ?_|refine tI ?_|refine fI ?_|refine ag (fun _=>?_) (fun _=>?_))<;>conv=>whnf)
 ·rename_i h3;exact⟨ah (by rw[io,if_pos h3]),rfl⟩
 ·rename_i h3;exact⟨ah (by rw[io,if_neg h3]),rfl⟩
theorem tw (p:an) (s:aC) (h:0<=s.n/\s.n<=1048576/\0<=s.f/\s.f<=1048576):ab Tryz.prog 228 [.agg (aB p), .agg (bv s)] (fun u=>u= .int .i64 (io p s)):=by
 refine ab.intro ac ae Tryz.func228 rfl (by decide) ?_;(conv=>whnf)
 refine ak rfl ?_
 conv=>whnf
 refine ak rfl ?_
 conv=>whnf
 repeat' ((first|refine nI ?_|refine aI ?_|refine uI ?_|refine vI ?_|refine dI ?_|refine dR ?_|refine dP ?_|refine ak rfl ?_|refine pI _ rfl ?_|refine ap _ rfl ?_|refine tI ?_|refine fI ?_|refine ag (fun _=>?_) (fun _=>?_))<;>conv=>whnf)
 ·rename_i h3;exact⟨ah (by rw[io,if_pos h3]),rfl⟩
 ·rename_i h3;exact⟨ah (by rw[io,if_neg h3]),rfl⟩
end Go.Proofs.YtekmminpfhacpaaGreatDoor
