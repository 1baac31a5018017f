import Derived.Test.YtekmminpfhacpaaGreatDoorM4
set_option linter.unusedVariables false
set_option linter.unusedSimpArgs false
namespace Go.Proofs.YtekmminpfhacpaaGreatDoor
set_option maxRecDepth 100000
set_option maxHeartbeats 8000000
structure Ee where
 states:List Int
 least:Int
structure aE where
 name:ByteArray
 kind:Int
 start:List Int
 bad:List Ee
 adjacent:List Int
 goal:List Int
def ca:Ee:=⟨[],0⟩
def fH (c:Ee):List AV:=[.sl 0 ao c.states, .int .i64 c.least]
def cJ (q:aE):List AV:=[.str q.name, .int .i64 q.kind, .sl 0 ao q.start, .sl ca fH q.bad, .sl 0 ao q.adjacent, .sl 0 ao q.goal]
def iX (q:aE):Prop:=500<q.name.size\/60<q.start.length\/60<q.bad.length\/60<q.adjacent.length\/60<q.goal.length\/∃j,j<q.bad.length/\60<(q.bad.getD j ca).states.length
instance (q:aE):Decidable (iX q):=inferInstanceAs (Decidable (_\/_))
theorem iY {q:aE} (h:¬iX q):q.name.size<=500/\q.start.length<=60/\q.bad.length<=60/\q.adjacent.length<=60/\q.goal.length<=60:=by
 unfold iX at h
 omega
theorem z5 {q:aE} (h:¬iX q):∀j,j<q.bad.length->(q.bad.getD j ca).states.length<=60:=fun j hj=>by
 have:¬(60<(q.bad.getD j ca).states.length):=fun h2=>h (.inr (.inr (.inr (.inr (.inr ⟨j,hj,h2⟩)))))
 omega
def qk (q:aE):Prop:=(q.name.size<=140737488355328/\q.start.length<=140737488355328/\q.bad.length<=140737488355328/\q.adjacent.length<=140737488355328/\q.goal.length<=140737488355328)/\∀j,j<q.bad.length->(q.bad.getD j ca).states.length<=140737488355328
theorem oz {q:aE} (h:¬iX q):qk q:=⟨by have:=iY h;omega,fun j hj=>by have:=z5 h j hj;omega⟩
theorem ro {q:aE} (h:qk q):q.name.size<=140737488355328/\q.start.length<=140737488355328/\q.bad.length<=140737488355328/\q.adjacent.length<=140737488355328/\q.goal.length<=140737488355328:=h.1
theorem m8 {q:aE} (h:qk q):∀j,j<q.bad.length->(q.bad.getD j ca).states.length<=140737488355328:=h.2
theorem CM (l:List Int) (s:Int) (hl:l.length<=4503599627370496):ab Tryz.prog 175 [.sl 0 ao l, .int .i64 s] (fun u=>∃n:Int,u= .int .i64 n/\(0<=n↔s∈l)):=by
 refine ab.intro ac ae Tryz.func175 rfl (by decide) ?_;(conv=>whnf)
 refine aF.loopF ac ae (fun k:Nat=>k<=l.length/\s∉l.take k) (fun k=>[(8, .int .i64 (k:Int))]) (fun _=>[]) (fun k=>l.length-k) 0 ⟨by omega,by simp⟩ ?_;conv=>whnf
 refine⟨sI,?_⟩
 rintro k ⟨hk,ha⟩
 conv=>whnf
 repeat' ((first|refine nI ?_|refine aI ?_|refine uI ?_|refine vI ?_|refine dI ?_|refine dR ?_|refine dP ?_|refine ak rfl ?_|refine pI _ rfl ?_|refine ap _ rfl ?_|refine tI ?_|refine fI ?_|refine ag (fun _=>?_) (fun _=>?_))<;>conv=>whnf)
 ·rename_i h1 h2
  rw[tN] at h2
  refine⟨⟨k,rfl,fun _=>?_,fun _=>by omega⟩,rfl⟩
  rw[h2,gD,gL (by omega)]
  exact List.getElem_mem _
 ·rename_i h1 h2
  rw[tN] at h2
  refine⟨k+1,sI,⟨by omega,?_⟩,by dsimp only;omega⟩
  rw[List.take_succ_eq_append_getElem (by omega),List.mem_append,List.mem_singleton,not_or]
  refine⟨ha,?_⟩
  rw[gD,gL (by omega)] at h2
  exact h2
 ·obtain rfl:k=l.length:=by omega
  rw[List.take_length] at ha
  exact⟨⟨-1,rfl,fun h=>by omega,fun h=>absurd h ha⟩,rfl⟩
theorem bo (l:List Int) (s:Int) (hl:l.length<=4503599627370496):ab Tryz.prog 82 [.sl 0 ao l, .int .i64 s] (fun u=>u= .bool (decide (s∈l))):=by
 refine ab.intro ac ae Tryz.func82 rfl (by decide) ?_;(conv=>whnf)
 refine am.of_pure (n:=5) (CM l s hl) rfl ?_
 rintro _ ⟨n,rfl,hn⟩
 conv=>whnf
 refine ag ?_ ?_<;>(intro h;conv=>whnf)
 ·exact⟨av (hn.1 h),rfl⟩
 ·exact⟨al (fun hh=>h (hn.2 hh)),rfl⟩
theorem u4 (l:List Int) (s:Int) (hl:l.length<=4503599627370496):ab Tryz.prog 203 [.sl 0 ao l, .int .i64 s] (fun u=>u= .bool (decide (s∈l))):=by
 refine ab.intro ac ae Tryz.func203 rfl (by decide) ?_;(conv=>whnf)
 refine aF.loopF ac ae (fun k:Nat=>k<=l.length/\s∉l.take k) (fun k=>[(5, .int .i64 (k:Int))]) (fun _=>[]) (fun k=>l.length-k) 0 ⟨by omega,by simp⟩ ?_;conv=>whnf
 refine⟨sI,?_⟩
 rintro k ⟨hk,ha⟩
 conv=>whnf
 repeat' ((first|refine nI ?_|refine aI ?_|refine uI ?_|refine vI ?_|refine dI ?_|refine dR ?_|refine dP ?_|refine ak rfl ?_|refine pI _ rfl ?_|refine ap _ rfl ?_|refine tI ?_|refine fI ?_|refine ag (fun _=>?_) (fun _=>?_))<;>conv=>whnf)
 ·rename_i h1 h2
  rw[tN] at h2
  refine⟨av ?_,rfl⟩
  rw[<-h2,gD,gL (by omega)]
  exact List.getElem_mem _
 ·rename_i h1 h2
  rw[tN] at h2
  refine⟨k+1,sI,⟨by omega,?_⟩,by dsimp only;omega⟩
  rw[List.take_succ_eq_append_getElem (by omega),List.mem_append,List.mem_singleton,not_or]
  refine⟨ha,fun e=>h2 ?_⟩
  rw[gD,gL (by omega)]
  exact e.symm
 ·obtain rfl:k=l.length:=by omega
  rw[List.take_length] at ha
  exact⟨al ha,rfl⟩
def xM (n:Int) (c:Ee):Int:=cb [bw c.states n,(if c.states.length=0\/c.least<1\/3<c.least then 1 else 0)]
def mO (n:Int) (l:List Ee):Int:=cb (l.map (xM n))
def mv (p:an) (l:List Int):Int:=if l.length=0 then 0 else if p.topology=1 then 6 else if l.length≠2 then 1 else cb [ci (l.getD 0 0) p.states.length,ci (l.getD 1 0) p.states.length]
def aU (p:an) (q:aE):Int:=
 if aw p≠0 then aw p else if¬bU q.name then 2 else if q.kind≠1/\q.kind≠2 then 1
 else if(q.kind=1/\0<q.goal.length)\/(q.kind=2/\(0<q.bad.length\/0<q.adjacent.length)) then 1
 else if bw q.start p.states.length≠0 then bw q.start p.states.length
 else if¬(∀j,j<q.start.length->q.start.getD j 0∈p.initial) then 5
 else if q.kind=2 then cb [bw q.goal p.states.length,(if q.goal.length=0 then 1 else 0)]
 else cb [(if q.bad.length=0/\q.adjacent.length=0 then 1 else 0),(if 3<q.bad.length then 4 else 0),mO p.states.length q.bad,mv p q.adjacent]
theorem oA (l:List Ee) (n:Int) (hl:l.length<=4503599627370496) (hs:∀j,j<l.length->(l.getD j ca).states.length<=140737488355328):ab Tryz.prog 158 [.sl ca fH l, .int .i64 n] (fun u=>u= .int .i64 (mO n l)):=by
 refine ab.intro ac ae Tryz.func158 rfl (by decide) ?_;(conv=>whnf)
 refine aF.loopF ac ae (fun k:Nat=>k<=l.length/\mO n l=cb ((l.drop k).map (xM n))) (fun k=>[(10, .int .i64 (k:Int))]) (fun _=>[]) (fun k=>l.length-k) 0 ⟨by omega,rfl⟩ ?_;conv=>whnf
 refine⟨sI,?_⟩
 rintro k ⟨hk,he⟩
 conv=>whnf
 refine ag ?_ ?_<;>(intro h1;conv=>whnf)
 ·rw[di _ ca (by omega)] at he
  have hlen:=hs k (by omega)
  refine nI ?_
  rw[tN]
  generalize l.getD k ca=g at he hlen
  conv=>whnf
  refine dI ?_
  conv=>whnf
  (refine oC (kB g.states n (by omega)) ?_;conv=>whnf)
  have fin:∀c:Int,c=(if g.states.length=0\/g.least<1\/3<g.least then 1 else 0)->cb [bw g.states n,c]=xM n g:=by rintro c rfl;rfl
  by_cases hc:g.states.length=0\/g.least<1\/3<g.least
  ·have ec:=fin 1 (by rw[if_pos hc])
   repeat' ((first|refine nI ?_|refine aI ?_|refine uI ?_|refine vI ?_|refine dI ?_|refine dR ?_|refine dP ?_|refine ak rfl ?_|refine pI _ rfl ?_|refine ap _ rfl ?_|refine tI ?_|refine fI ?_|refine ag (fun _=>?_) (fun _=>?_))<;>conv=>whnf)
   all_goals
    (refine oC (gP 1) ?_;conv=>whnf)
    refine cX ?_
    conv=>whnf
    (refine oC (cd _ (by simp)) ?_;conv=>whnf)
    rw[ec]
    refine ag ?_ ?_<;>(intro h2;conv=>whnf)
    ·rw[if_pos h2] at he
     exact⟨ah he.symm,rfl⟩
    ·rw[if_neg h2] at he
     repeat' ((first|refine nI ?_|refine aI ?_|refine uI ?_|refine vI ?_|refine dI ?_|refine dR ?_|refine dP ?_|refine ak rfl ?_|refine pI _ rfl ?_|refine ap _ rfl ?_|refine tI ?_|refine fI ?_|refine ag (fun _=>?_) (fun _=>?_))<;>conv=>whnf)
     exact⟨k+1,sI,⟨by omega,he⟩,by dsimp only;omega⟩
  ·have ec:=fin 0 (by rw[if_neg hc])
   repeat' ((first|refine nI ?_|refine aI ?_|refine tI ?_|refine fI ?_|fail);conv=>whnf)
   (refine oC (fO 1) ?_;conv=>whnf)
   refine cX ?_
   conv=>whnf
   (refine oC (cd _ (by simp)) ?_;conv=>whnf)
   rw[ec]
   refine ag ?_ ?_<;>(intro h2;conv=>whnf)
   ·rw[if_pos h2] at he
    exact⟨ah he.symm,rfl⟩
   ·rw[if_neg h2] at he
    repeat' ((first|refine nI ?_|refine aI ?_|refine uI ?_|refine vI ?_|refine dI ?_|refine dR ?_|refine dP ?_|refine ak rfl ?_|refine pI _ rfl ?_|refine ap _ rfl ?_|refine tI ?_|refine fI ?_|refine ag (fun _=>?_) (fun _=>?_))<;>conv=>whnf)
    exact⟨k+1,sI,⟨by omega,he⟩,by dsimp only;omega⟩
 ·rw[List.drop_of_length_le (by omega)] at he
  exact⟨ah he.symm,rfl⟩
theorem z6 (p:an) (l:List Int):ab Tryz.prog 159 [.agg (aB p), .sl 0 ao l] (fun u=>u= .int .i64 (mv p l)):=by
 have he:=mv.eq_1 p l
 refine ab.intro ac ae Tryz.func159 rfl (by decide) ?_;(conv=>whnf)
 refine ak rfl ?_
 conv=>whnf
 refine ag ?_ ?_<;>(intro h1;conv=>whnf)
 ·rw[if_pos (by omega)] at he;exact⟨ah he.symm,rfl⟩
 rw[if_neg (by omega)] at he
 refine ag ?_ ?_<;>(intro h2;conv=>whnf)
 ·rw[if_pos h2] at he;exact⟨ah he.symm,rfl⟩
 rw[if_neg h2] at he
 refine ag ?_ ?_<;>(intro h3;conv=>whnf)
 ·rw[if_pos (by omega)] at he;exact⟨ah he.symm,rfl⟩
 rw[if_neg (by omega)] at he
 refine dI ?_
 conv=>whnf
 refine nI ?_
 conv=>whnf
 (refine oC (fE _ _) ?_;conv=>whnf)
 refine nI ?_
 conv=>whnf
 (refine oC (fE _ _) ?_;conv=>whnf)
 refine cX ?_
 conv=>whnf
 (refine oC (cd _ (by simp)) ?_;conv=>whnf)
 exact⟨ah he.symm,rfl⟩
theorem iq (p:an) (q:aE) (hp:g7 p) (hq:qk q):ab Tryz.prog 70 [.agg (aB p), .agg (cJ q)] (fun u=>u= .int .i64 (aU p q)):=by
 have hle:=gZ hp
 have hlq:=ro hq
 have he:=aU.eq_1 p q
 refine ab.intro ac ae Tryz.func70 rfl (by decide) ?_;(conv=>whnf)
 refine ak rfl ?_
 conv=>whnf
 refine ak rfl ?_
 conv=>whnf
 (refine oP (dj p hp) ?_;conv=>whnf)
 refine ag ?_ ?_<;>(intro h1;conv=>whnf)
 ·rw[if_pos h1] at he;exact⟨ah he.symm,rfl⟩
 rw[if_neg h1] at he
 refine ag ?_ ?_<;>(intro hk;conv=>whnf)
 all_goals
  refine dC (dU q.name (by omega)) (fun _=>?_) (fun _=>?_)<;>(conv=>whnf)
  case refine_2=>rename_i hv;rw[if_pos hv] at he;exact⟨ah he.symm,rfl⟩
  rename_i hv
  rw[if_neg (fun h=>h hv)] at he
  by_cases hA:q.kind≠1/\q.kind≠2
  ·rw[if_pos hA] at he
   repeat' ((first|refine nI ?_|refine aI ?_|refine uI ?_|refine vI ?_|refine dI ?_|refine dR ?_|refine dP ?_|refine ak rfl ?_|refine pI _ rfl ?_|refine ap _ rfl ?_|refine tI ?_|refine fI ?_|refine ag (fun _=>?_) (fun _=>?_))<;>conv=>whnf)
   all_goals exact⟨ah he.symm,rfl⟩
  rw[if_neg hA] at he
  by_cases hB:(q.kind=1/\0<q.goal.length)\/(q.kind=2/\(0<q.bad.length\/0<q.adjacent.length))
  ·rw[if_pos hB] at he
   repeat' ((first|refine nI ?_|refine aI ?_|refine uI ?_|refine vI ?_|refine dI ?_|refine dR ?_|refine dP ?_|refine ak rfl ?_|refine pI _ rfl ?_|refine ap _ rfl ?_|refine tI ?_|refine fI ?_|refine ag (fun _=>?_) (fun _=>?_))<;>conv=>whnf)
   all_goals exact⟨ah he.symm,rfl⟩
  rw[if_neg hB] at he
  repeat' ((first|refine nI ?_|refine aI ?_|refine tI ?_|refine fI ?_|fail);conv=>whnf)
  (refine oP (kB q.start _ (by omega)) ?_;conv=>whnf)
  refine ag ?_ ?_<;>(intro h2;conv=>whnf)
  ·rw[if_pos h2] at he;exact⟨ah he.symm,rfl⟩
  rw[if_neg h2] at he
  refine aF.loopF ac ae (fun k:Nat=>k<=q.start.length/\∀j,j<k->q.start.getD j 0∈p.initial) (fun k=>[(67, .int .i64 (k:Int))]) (fun _=>[]) (fun k=>q.start.length-k) 0 ⟨by omega,fun j hj=>by omega⟩ ?_;conv=>whnf
  refine⟨sI,?_⟩
  rintro k ⟨hk',ha⟩
  conv=>whnf
  refine ag ?_ ?_<;>(intro h3;conv=>whnf)
  ·refine nI ?_
   rw[tN]
   conv=>whnf
   refine dC (bo p.initial _ (by omega)) (fun _=>?_) (fun _=>?_)<;>(conv=>whnf)
   ·rename_i hm
    repeat' ((first|refine nI ?_|refine aI ?_|refine tI ?_|refine fI ?_|fail);conv=>whnf)
    refine⟨k+1,sI,⟨by omega,fun j hj=>?_⟩,by dsimp only;omega⟩
    by_cases e:j=k
    ·subst e;exact hm
    ·exact ha j (by omega)
   ·rename_i hm
    rw[if_pos (fun h=>hm (h k (by omega)))] at he
    exact⟨ah he.symm,rfl⟩
  rw[if_neg (fun h=>h (fun j hj=>ha j (by omega)))] at he
  refine dI ?_
  conv=>whnf
 ·rw[if_neg (by omega)] at he
  have fin:∀a b:Int,a=(if q.bad.length=0/\q.adjacent.length=0 then 1 else 0)->b=(if 3<q.bad.length then 4 else 0)->aU p q=cb [a,b,mO p.states.length q.bad,mv p q.adjacent]:=by rintro a b rfl rfl;exact he
  by_cases hC:q.bad.length=0/\q.adjacent.length=0
  ·have f1:=fin 1 0 (by rw[if_pos hC]) (by rw[if_neg (by omega)])
   repeat' ((first|refine nI ?_|refine aI ?_|refine tI ?_|refine fI ?_|fail);conv=>whnf)
   (refine oC (gP 1) ?_;conv=>whnf)
   repeat' ((first|refine nI ?_|refine aI ?_|refine tI ?_|refine fI ?_|fail);conv=>whnf)
   (refine oC (fO 4) ?_;conv=>whnf)
   (refine oC (oA q.bad _ (by omega) (m8 hq)) ?_;conv=>whnf)
   (refine oC (z6 p q.adjacent) ?_;conv=>whnf)
   refine cX ?_
   conv=>whnf
   (refine oC (cd _ (by simp)) ?_;conv=>whnf)
   exact⟨ah f1.symm,rfl⟩
  ·by_cases hD:3<q.bad.length
   ·have f1:=fin 0 4 (by rw[if_neg hC]) (by rw[if_pos hD])
    repeat' ((first|refine nI ?_|refine aI ?_|refine uI ?_|refine vI ?_|refine dI ?_|refine dR ?_|refine dP ?_|refine ak rfl ?_|refine pI _ rfl ?_|refine ap _ rfl ?_|refine tI ?_|refine fI ?_|refine ag (fun _=>?_) (fun _=>?_))<;>conv=>whnf)
    all_goals
     (refine oC (fO 1) ?_;conv=>whnf)
     repeat' ((first|refine nI ?_|refine aI ?_|refine tI ?_|refine fI ?_|fail);conv=>whnf)
     (refine oC (gP 4) ?_;conv=>whnf)
     (refine oC (oA q.bad _ (by omega) (m8 hq)) ?_;conv=>whnf)
     (refine oC (z6 p q.adjacent) ?_;conv=>whnf)
     refine cX ?_
     conv=>whnf
     (refine oC (cd _ (by simp)) ?_;conv=>whnf)
     exact⟨ah f1.symm,rfl⟩
   ·have f1:=fin 0 0 (by rw[if_neg hC]) (by rw[if_neg hD])
    repeat' ((first|refine nI ?_|refine aI ?_|refine uI ?_|refine vI ?_|refine dI ?_|refine dR ?_|refine dP ?_|refine ak rfl ?_|refine pI _ rfl ?_|refine ap _ rfl ?_|refine tI ?_|refine fI ?_|refine ag (fun _=>?_) (fun _=>?_))<;>conv=>whnf)
    all_goals
     (refine oC (fO 1) ?_;conv=>whnf)
     repeat' ((first|refine nI ?_|refine aI ?_|refine tI ?_|refine fI ?_|fail);conv=>whnf)
     (refine oC (fO 4) ?_;conv=>whnf)
     (refine oC (oA q.bad _ (by omega) (m8 hq)) ?_;conv=>whnf)
     (refine oC (z6 p q.adjacent) ?_;conv=>whnf)
     refine cX ?_
     conv=>whnf
     (refine oC (cd _ (by simp)) ?_;conv=>whnf)
     exact⟨ah f1.symm,rfl⟩
 ·rw[if_pos (by omega)] at he
  (refine oC (kB q.goal _ (by omega)) ?_;conv=>whnf)
  by_cases hC:q.goal.length=0
  ·rw[if_pos hC] at he
   repeat' ((first|refine nI ?_|refine aI ?_|refine tI ?_|refine fI ?_|fail);conv=>whnf)
   (refine oC (gP 1) ?_;conv=>whnf)
   refine cX ?_
   conv=>whnf
   (refine oC (cd _ (by simp)) ?_;conv=>whnf)
   exact⟨ah he.symm,rfl⟩
  ·rw[if_neg hC] at he
   repeat' ((first|refine nI ?_|refine aI ?_|refine tI ?_|refine fI ?_|fail);conv=>whnf)
   (refine oC (fO 1) ?_;conv=>whnf)
   refine cX ?_
   conv=>whnf
   (refine oC (cd _ (by simp)) ?_;conv=>whnf)
   exact⟨ah he.symm,rfl⟩
theorem jV (p:an) (q:aE) (hp:g7 p) (hq:qk q):ab Tryz.prog 111 [.agg (aB p), .agg (cJ q)] (fun u=>u= .int .i64 (aU p q)):=by
 have hle:=gZ hp
 have hlq:=ro hq
 have he:=aU.eq_1 p q
 refine ab.intro ac ae Tryz.func111 rfl (by decide) ?_;(conv=>whnf)
 refine ak rfl ?_
 conv=>whnf
 refine ak rfl ?_
 conv=>whnf
 (refine oP (f6 p hp) ?_;conv=>whnf)
 refine ag ?_ ?_<;>(intro h1;conv=>whnf)
 ·rw[if_pos h1] at he;exact⟨ah he.symm,rfl⟩
 rw[if_neg h1] at he
 refine dC (iU q.name (by omega)) (fun _=>?_) (fun _=>?_)<;>(conv=>whnf)
 case refine_2=>rename_i hv;rw[if_pos hv] at he;exact⟨ah he.symm,rfl⟩
 rename_i hv
 rw[if_neg (fun h=>h hv)] at he
 by_cases hA:q.kind≠1/\q.kind≠2
 ·rw[if_pos hA] at he
  repeat' ((first|refine nI ?_|refine aI ?_|refine uI ?_|refine vI ?_|refine dI ?_|refine dR ?_|refine dP ?_|refine ak rfl ?_|refine pI _ rfl ?_|refine ap _ rfl ?_|refine tI ?_|refine fI ?_|refine ag (fun _=>?_) (fun _=>?_))<;>conv=>whnf)
  all_goals exact⟨ah he.symm,rfl⟩
 rw[if_neg hA] at he
 by_cases hB:(q.kind=1/\0<q.goal.length)\/(q.kind=2/\(0<q.bad.length\/0<q.adjacent.length))
 ·rw[if_pos hB] at he
  repeat' ((first|refine nI ?_|refine aI ?_|refine uI ?_|refine vI ?_|refine dI ?_|refine dR ?_|refine dP ?_|refine ak rfl ?_|refine pI _ rfl ?_|refine ap _ rfl ?_|refine tI ?_|refine fI ?_|refine ag (fun _=>?_) (fun _=>?_))<;>conv=>whnf)
  all_goals exact⟨ah he.symm,rfl⟩
 rw[if_neg hB] at he
 have hk12:q.kind=1\/q.kind=2:=by omega
 rcases hk12 with hk|hk
 all_goals
  repeat' ((first|refine nI ?_|refine aI ?_|refine tI ?_|refine fI ?_|fail);conv=>whnf)
  (refine oP (oq q.start _ (by omega) (by omega)) ?_;conv=>whnf)
  refine ag ?_ ?_<;>(intro h2;conv=>whnf)
  ·rw[if_pos h2] at he;exact⟨ah he.symm,rfl⟩
  rw[if_neg h2] at he
  refine aF.loopF ac ae (fun k:Nat=>k<=q.start.length/\∀j,j<k->q.start.getD j 0∈p.initial) (fun k=>[(8, .int .i64 (k:Int))]) (fun _=>[]) (fun k=>q.start.length-k) 0 ⟨by omega,fun j hj=>by omega⟩ ?_;conv=>whnf
  refine⟨sI,?_⟩
  rintro k ⟨hk',ha⟩
  conv=>whnf
  refine ag ?_ ?_<;>(intro h3;conv=>whnf)
  ·refine dI ?_
   conv=>whnf
   refine nI ?_
   rw[tN]
   conv=>whnf
   refine dD (u4 p.initial _ (by omega)) (fun _=>?_) (fun _=>?_)<;>(conv=>whnf)
   ·rename_i hm
    repeat' ((first|refine nI ?_|refine aI ?_|refine tI ?_|refine fI ?_|fail);conv=>whnf)
    refine⟨k+1,sI,⟨by omega,fun j hj=>?_⟩,by dsimp only;omega⟩
    by_cases e:j=k
    ·subst e;exact hm
    ·exact ha j (by omega)
   ·rename_i hm
    rw[if_pos (fun h=>hm (h k (by omega)))] at he
    exact⟨ah he.symm,rfl⟩
  rw[if_neg (fun h=>h (fun j hj=>ha j (by omega)))] at he
  repeat' ((first|refine nI ?_|refine aI ?_|refine tI ?_|refine fI ?_|fail);conv=>whnf)
 ·rw[if_neg (by omega)] at he
  by_cases hC:q.bad.length=0/\q.adjacent.length=0
  ·rw[if_pos hC] at he
   repeat' ((first|refine nI ?_|refine aI ?_|refine tI ?_|refine fI ?_|fail);conv=>whnf)
   exact⟨ah he.symm,rfl⟩
  rw[if_neg hC] at he
  have he:aU p q=cb [(if 3<q.bad.length then 4 else 0),mO p.states.length q.bad,mv p q.adjacent]:=he
  by_cases hD:3<q.bad.length
  ·rw[if_pos hD] at he
   repeat' ((first|refine nI ?_|refine aI ?_|refine uI ?_|refine vI ?_|refine dI ?_|refine dR ?_|refine dP ?_|refine ak rfl ?_|refine pI _ rfl ?_|refine ap _ rfl ?_|refine tI ?_|refine fI ?_|refine ag (fun _=>?_) (fun _=>?_))<;>conv=>whnf)
   all_goals exact⟨ah he.symm,rfl⟩
  rw[if_neg hD] at he
  have he:aU p q=cb [mO p.states.length q.bad,mv p q.adjacent]:=he
  repeat' ((first|refine nI ?_|refine aI ?_|refine uI ?_|refine vI ?_|refine dI ?_|refine dR ?_|refine dP ?_|refine ak rfl ?_|refine pI _ rfl ?_|refine ap _ rfl ?_|refine tI ?_|refine fI ?_|refine ag (fun _=>?_) (fun _=>?_))<;>conv=>whnf)
  all_goals
   refine aF.loopF ac ae (fun k:Nat=>k<=q.bad.length/\mO p.states.length q.bad=cb ((q.bad.drop k).map (xM p.states.length))) (fun k=>[(10, .int .i64 (k:Int))]) (fun _=>[]) (fun k=>q.bad.length-k) 0 ⟨by omega,rfl⟩ ?_;conv=>whnf
   refine⟨sI,?_⟩
   rintro k ⟨hk',hr⟩
   conv=>whnf
   refine ag ?_ ?_<;>(intro h3;conv=>whnf)
   ·first
    |(exfalso;omega)
    |rw[di _ ca (by omega)] at hr
     have hlen:=m8 hq k (by omega)
     refine nI ?_
     rw[tN]
     conv=>whnf
     (refine oP (oq (q.bad.getD k ca).states _ (by omega) (by omega)) ?_;conv=>whnf)
     have hg:=xM.eq_1 p.states.length (q.bad.getD k ca)
     refine ag ?_ ?_<;>(intro h4;conv=>whnf)
     ·rw[bV h4] at hg
      rw[hg,if_pos h4] at hr
      rw[hr,bV h4] at he
      exact⟨ah he.symm,rfl⟩
     refine nI ?_
     rw[tN]
     conv=>whnf
     rw[be (by omega)] at hg
     by_cases hc:(q.bad.getD k ca).states.length=0\/(q.bad.getD k ca).least<1\/3<(q.bad.getD k ca).least
     ·rw[if_pos hc] at hg
      rw[hg] at hr
      rw[hr] at he
      by_cases hz:(q.bad.getD k ca).states.length=0
      ·repeat' ((first|refine nI ?_|refine aI ?_|refine tI ?_|refine fI ?_|fail);conv=>whnf)
       exact⟨ah he.symm,rfl⟩
      ·repeat' ((first|refine nI ?_|refine aI ?_|refine tI ?_|refine fI ?_|fail);conv=>whnf)
       refine dC (aL _ _ _) (fun _=>?_) (fun _=>?_)<;>(conv=>whnf)
       ·rename_i h;rw[tN] at h;omega
       ·exact⟨ah he.symm,rfl⟩
     ·rw[if_neg hc] at hg
      rw[hg] at hr
      repeat' ((first|refine nI ?_|refine aI ?_|refine tI ?_|refine fI ?_|fail);conv=>whnf)
      refine dC (aL _ _ _) (fun _=>?_) (fun _=>?_)<;>(conv=>whnf)
      ·repeat' ((first|refine nI ?_|refine aI ?_|refine tI ?_|refine fI ?_|fail);conv=>whnf)
       exact⟨k+1,sI,⟨by omega,hr⟩,by dsimp only;omega⟩
      ·rename_i h;rw[tN] at h;omega
   rw[List.drop_of_length_le (by omega)] at hr
   rw[be hr] at he
   have he:aU p q=(if mv p q.adjacent≠0 then mv p q.adjacent else 0):=he
   have ha':=mv.eq_1 p q.adjacent
   by_cases h0:q.adjacent.length=0
   ·rw[if_pos h0] at ha'
    rw[ha'] at he
    first
    |(exfalso;omega)
    |skip
     repeat' ((first|refine nI ?_|refine aI ?_|refine tI ?_|refine fI ?_|fail);conv=>whnf)
     refine aF.loopF ac ae (fun i:Nat=>i=0) (fun i=>[(12, .int .i64 (i:Int))]) (fun _=>[]) (fun _=>0) 0 rfl ?_;conv=>whnf
     refine⟨sI,?_⟩
     rintro i rfl
     conv=>whnf
     repeat' ((first|refine nI ?_|refine aI ?_|refine tI ?_|refine fI ?_|fail);conv=>whnf)
     exact⟨ah he.symm,rfl⟩
   rw[if_neg h0] at ha'
   by_cases ht:p.topology=1
   ·rw[if_pos ht] at ha'
    rw[ha'] at he
    repeat' ((first|refine nI ?_|refine aI ?_|refine tI ?_|refine fI ?_|fail);conv=>whnf)
    exact⟨ah he.symm,rfl⟩
   rw[if_neg ht] at ha'
   by_cases h2':q.adjacent.length≠2
   ·rw[if_pos h2'] at ha'
    rw[ha'] at he
    repeat' ((first|refine nI ?_|refine aI ?_|refine tI ?_|refine fI ?_|fail);conv=>whnf)
    exact⟨ah he.symm,rfl⟩
   rw[if_neg h2'] at ha'
   repeat' ((first|refine nI ?_|refine aI ?_|refine tI ?_|refine fI ?_|fail);conv=>whnf)
   refine aF.loopF ac ae (fun i:Nat=>i<=2/\∀j,j<i->0<=q.adjacent.getD j 0/\q.adjacent.getD j 0<p.states.length) (fun i=>[(12, .int .i64 (i:Int))]) (fun _=>[]) (fun i=>2-i) 0 ⟨by omega,fun j hj=>by omega⟩ ?_;conv=>whnf
   refine⟨sI,?_⟩
   rintro i ⟨hi,hin⟩
   conv=>whnf
   refine ag ?_ ?_<;>(intro h5;conv=>whnf)
   ·refine nI ?_
    rw[tN]
    conv=>whnf
    repeat' ((first|refine nI ?_|refine aI ?_|refine tI ?_|refine fI ?_|fail);conv=>whnf)
    refine dC (aL _ _ _) (fun _=>?_) (fun _=>?_)<;>(conv=>whnf)
    ·rename_i h6
     repeat' ((first|refine nI ?_|refine aI ?_|refine tI ?_|refine fI ?_|fail);conv=>whnf)
     refine⟨i+1,sI,⟨by omega,fun j hj=>?_⟩,by dsimp only;omega⟩
     by_cases e:j=i
     ·subst e;omega
     ·exact hin j (by omega)
    ·rename_i h6
     have h7:mv p q.adjacent=5:=by
      rw[ha']
      have hi2:i=0\/i=1:=by omega
      rcases hi2 with rfl|rfl
      ·rw[bV (by rw[ci,if_pos (by omega)];decide),ci,if_pos (by omega)]
      ·have:=hin 0 (by omega)
       rw[be (by rw[ci,if_neg (by omega)]),bV (by rw[ci,if_pos (by omega)];decide),ci,if_pos (by omega)]
     rw[h7] at he
     exact⟨ah he.symm,rfl⟩
   ·have h7:mv p q.adjacent=0:=by
     rw[ha']
     have a0:=hin 0 (by omega)
     have a1:=hin 1 (by omega)
     rw[be (by rw[ci,if_neg (by omega)]),be (by rw[ci,if_neg (by omega)])];rfl
    rw[h7] at he
    exact⟨ah he.symm,rfl⟩
 ·rw[if_pos (by omega)] at he
  (refine oP (oq q.goal _ (by omega) (by omega)) ?_;conv=>whnf)
  refine ag ?_ ?_<;>(intro h4;conv=>whnf)
  ·rw[bV h4] at he;exact⟨ah he.symm,rfl⟩
  rw[be (by omega)] at he
  by_cases h5:q.goal.length=0
  ·rw[if_pos h5] at he
   repeat' ((first|refine nI ?_|refine aI ?_|refine tI ?_|refine fI ?_|fail);conv=>whnf)
   exact⟨ah he.symm,rfl⟩
  ·rw[if_neg h5] at he
   repeat' ((first|refine nI ?_|refine aI ?_|refine tI ?_|refine fI ?_|fail);conv=>whnf)
   exact⟨ah he.symm,rfl⟩
theorem E3 (l:List Int) (a:Int) (i:Nat) (ha:a=i) (h:shp l) (hi:i<l.length) (hl:l.length<=1000):ab Tryz.prog 302 [.sl 0 ao l, .int .i64 a] (fun u=>u= .int .i64 (bc l i:Int)):=by
 subst ha
 have hat:=h.at hi
 refine ab.intro ac ae Tryz.func302 rfl (by decide) ?_;(conv=>whnf)
 refine aF.loopF ac ae (fun x:Nat×Nat=>x.2<=l.length/\x.1<=x.2+1/\bB x.1 (l.drop x.2)=some (l.drop (bc l i))) (fun x=>[(5, .int .i64 (x.1:Int)),(1, .int .i64 (x.2:Int))]) (fun _=>[]) (fun x=>l.length-x.2) (1,i) ⟨by dsimp only;omega,by dsimp only;omega,hat.1⟩ ?_;conv=>whnf
 refine⟨sI,?_⟩
 rintro x ⟨h1,h2,h3⟩
 conv=>whnf
 refine ag ?_ ?_<;>(intro h4;conv=>whnf)
 ·obtain⟨d,hd⟩:∃d,x.1=d+1:=⟨x.1-1,by omega⟩
  rw[hd] at h3
  have hj:x.2<l.length:=by
   by_cases hj:x.2<l.length
   ·exact hj
   ·rw[List.drop_of_length_le (by omega),e8] at h3;cases h3
  rw[fc hj,b7] at h3
  refine nI ?_
  rw[tN]
  conv=>whnf
  by_cases h0:l.getD x.2 0=0
  ·rw[if_pos h0] at h3
   repeat' ((first|refine nI ?_|refine aI ?_|refine tI ?_|refine fI ?_|fail);conv=>whnf)
   exact⟨(d,x.2+1),sI,⟨by dsimp only;omega,by dsimp only;omega,h3⟩,by dsimp only;omega⟩
  ·rw[if_neg h0] at h3
   by_cases h5:l.getD x.2 0=2
   ·rw[if_pos h5] at h3
    repeat' ((first|refine nI ?_|refine aI ?_|refine tI ?_|refine fI ?_|fail);conv=>whnf)
    exact⟨(d+2,x.2+1),sI,⟨by dsimp only;omega,by dsimp only;omega,h3⟩,by dsimp only;omega⟩
   ·rw[if_neg h5] at h3;cases h3
 ·have h6:x.1=0:=by omega
  rw[h6,dS,Option.some.injEq] at h3
  have h5:=congrArg List.length h3
  simp only[List.length_drop] at h5
  exact⟨ah (by omega),rfl⟩
theorem ww {l:List Int} {j k:Nat} (h:l.getD k 0=2) (h2:k+1=j):cA l j k=true:=by unfold cA;rw[decide_eq_true h,decide_eq_true h2];rfl
theorem wx {l:List Int} {j k:Nat} (h:l.getD k 0=2) (h2:bc l (k+1)=j):cA l j k=true:=by unfold cA;rw[decide_eq_true h,decide_eq_true h2];cases decide (k+1=j)<;>rfl
theorem wy {l:List Int} {j k:Nat} (h:¬k+1=j) (h2:¬bc l (k+1)=j):cA l j k=false:=by unfold cA;rw[decide_eq_false h,decide_eq_false h2];cases decide (l.getD k 0=2)<;>rfl
theorem wz {l:List Int} {j k:Nat} (h:¬l.getD k 0=2):cA l j k=false:=by unfold cA;rw[decide_eq_false h];rfl
theorem u5 (t:Int) (l:List Int) (n i:Nat) (hl:l.length<=1000) (hn:n<=1000) (hi:i<n):ab Tryz.prog 280 [.int .i64 t, .sl 0 ao l, .int .i64 (n:Int), .int .i64 (i:Int)] (fun u=>u=GM (HD t l n i)):=by
 have he:=HD.eq_1 t l n i
 rw[if_neg (by omega)] at he
 refine ab.intro ac ae Tryz.func280 rfl (by decide) ?_;(conv=>whnf)
 repeat' ((first|refine nI ?_|refine aI ?_|refine tI ?_|refine fI ?_|fail);conv=>whnf)
 refine dC (fk _ _ _) (fun _=>?_) (fun _=>?_)<;>(conv=>whnf)
 case refine_2=>rename_i h;omega
 refine ag ?_ ?_<;>(intro h3;conv=>whnf)
 ·rw[if_neg (by omega),if_pos h3] at he
  have hm:((i:Int)+1).tmod n=if(i:Int)+1=n then 0 else(i:Int)+1:=by
   by_cases h:(i:Int)+1=n
   ·rw[if_pos h,h,Int.tmod_self]
   ·rw[if_neg h,Int.tmod_eq_of_lt (by omega) (by omega)]
  by_cases hz:i=0
  ·rw[if_pos (by omega)] at he
   repeat' ((first|refine nI ?_|refine aI ?_|refine tI ?_|refine fI ?_|fail);conv=>whnf)
   refine dI ?_
   conv=>whnf
   repeat' ((first|refine nI ?_|refine aI ?_|refine tI ?_|refine fI ?_|fail);conv=>whnf)
   exact⟨gN (by rw[he,hm]),rfl⟩
  ·rw[if_neg (by omega)] at he
   repeat' ((first|refine nI ?_|refine aI ?_|refine tI ?_|refine fI ?_|fail);conv=>whnf)
   refine dI ?_
   conv=>whnf
   repeat' ((first|refine nI ?_|refine aI ?_|refine tI ?_|refine fI ?_|fail);conv=>whnf)
   exact⟨gN (by rw[he,hm]),rfl⟩
 refine ag ?_ ?_<;>(intro h2;conv=>whnf)
 ·rw[if_pos h2] at he
  by_cases hz:(i:Int)+1=n
  ·rw[if_pos hz] at he
   repeat' ((first|refine nI ?_|refine aI ?_|refine tI ?_|refine fI ?_|fail);conv=>whnf)
   exact⟨gN he,rfl⟩
  ·rw[if_neg hz] at he
   repeat' ((first|refine nI ?_|refine aI ?_|refine tI ?_|refine fI ?_|fail);conv=>whnf)
   exact⟨gN he,rfl⟩
 rw[if_neg h2,if_neg h3] at he
 by_cases h4:t=4/\(l.length:Int)=n
 case neg=>
  rw[if_neg (fun h=>h4 ⟨h.1,h.2.1⟩)] at he
  repeat' ((first|refine nI ?_|refine aI ?_|refine uI ?_|refine vI ?_|refine dI ?_|refine dR ?_|refine dP ?_|refine ak rfl ?_|refine pI _ rfl ?_|refine ap _ rfl ?_|refine tI ?_|refine fI ?_|refine ag (fun _=>?_) (fun _=>?_))<;>conv=>whnf)
  all_goals exact⟨gN he,rfl⟩
 obtain⟨rfl,h5⟩:=h4
 repeat' ((first|refine nI ?_|refine aI ?_|refine tI ?_|refine fI ?_|fail);conv=>whnf)
 refine dC (oy l hl) (fun _=>?_) (fun _=>?_)<;>(conv=>whnf)
 case refine_2=>
  rename_i hs
  rw[if_neg (fun h=>hs h.2.2)] at he
  exact⟨gN he,rfl⟩
 rename_i hs
 rw[if_pos ⟨rfl,h5,hs⟩,tN] at he
 refine nI ?_
 rw[tN]
 conv=>whnf
 by_cases h6:l.getD i 0=2
 ·have h7:=hs.two (by omega) h6
  rw[gY,if_pos h6,fj,if_pos h6] at he
  repeat' ((first|refine nI ?_|refine aI ?_|refine tI ?_|refine fI ?_|fail);conv=>whnf)
  (refine oP (E3 l _ (i+1) (by omega) hs (by omega) hl) ?_;conv=>whnf)
  refine aF.loopF ac ae (fun k:Nat=>k<=i) (fun k=>[(17, .int .i64 (k:Int)),(16, .int .i64 (kA l i k))]) (fun _=>[]) (fun k=>i-k) 0 (Nat.zero_le _) ?_;conv=>whnf
  refine⟨sI,?_⟩
  rintro k hk
  conv=>whnf
  refine ag ?_ ?_<;>(intro h8;conv=>whnf)
  ·have hsu:=ik l i k
   refine nI ?_
   rw[tN]
   conv=>whnf
   refine ag ?_ ?_<;>(intro h9;conv=>whnf)
   ·have h10:=hs.two (by omega) h9
    by_cases h11:k+1=i
    ·rw[ww h9 h11,if_pos rfl] at hsu
     repeat' ((first|refine nI ?_|refine aI ?_|refine tI ?_|refine fI ?_|fail);conv=>whnf)
     exact⟨k+1,sI,by omega,by dsimp only;omega⟩
    ·repeat' ((first|refine nI ?_|refine aI ?_|refine tI ?_|refine fI ?_|fail);conv=>whnf)
     (refine oP (E3 l _ (k+1) (by omega) hs (by omega) hl) ?_;conv=>whnf)
     by_cases h12:bc l (k+1)=i
     ·rw[wx h9 h12,if_pos rfl] at hsu
      repeat' ((first|refine nI ?_|refine aI ?_|refine tI ?_|refine fI ?_|fail);conv=>whnf)
      exact⟨k+1,sI,by omega,by dsimp only;omega⟩
     ·rw[wy h11 h12,if_neg (by decide)] at hsu
      repeat' ((first|refine nI ?_|refine aI ?_|refine tI ?_|refine fI ?_|fail);conv=>whnf)
      exact⟨k+1,sI,by omega,by dsimp only;omega⟩
   ·rw[wz h9,if_neg (by decide)] at hsu
    repeat' ((first|refine nI ?_|refine aI ?_|refine tI ?_|refine fI ?_|fail);conv=>whnf)
    exact⟨k+1,sI,by omega,by dsimp only;omega⟩
  ·obtain rfl:k=i:=by omega
   exact⟨gN he,rfl⟩
 ·rw[gY,if_neg h6,fj,if_neg h6] at he
  repeat' ((first|refine nI ?_|refine aI ?_|refine tI ?_|refine fI ?_|fail);conv=>whnf)
  refine aF.loopF ac ae (fun k:Nat=>k<=i) (fun k=>[(17, .int .i64 (k:Int)),(16, .int .i64 (kA l i k))]) (fun _=>[]) (fun k=>i-k) 0 (Nat.zero_le _) ?_;conv=>whnf
  refine⟨sI,?_⟩
  rintro k hk
  conv=>whnf
  refine ag ?_ ?_<;>(intro h8;conv=>whnf)
  ·have hsu:=ik l i k
   refine nI ?_
   rw[tN]
   conv=>whnf
   refine ag ?_ ?_<;>(intro h9;conv=>whnf)
   ·have h10:=hs.two (by omega) h9
    by_cases h11:k+1=i
    ·rw[ww h9 h11,if_pos rfl] at hsu
     repeat' ((first|refine nI ?_|refine aI ?_|refine tI ?_|refine fI ?_|fail);conv=>whnf)
     exact⟨k+1,sI,by omega,by dsimp only;omega⟩
    ·repeat' ((first|refine nI ?_|refine aI ?_|refine tI ?_|refine fI ?_|fail);conv=>whnf)
     (refine oP (E3 l _ (k+1) (by omega) hs (by omega) hl) ?_;conv=>whnf)
     by_cases h12:bc l (k+1)=i
     ·rw[wx h9 h12,if_pos rfl] at hsu
      repeat' ((first|refine nI ?_|refine aI ?_|refine tI ?_|refine fI ?_|fail);conv=>whnf)
      exact⟨k+1,sI,by omega,by dsimp only;omega⟩
     ·rw[wy h11 h12,if_neg (by decide)] at hsu
      repeat' ((first|refine nI ?_|refine aI ?_|refine tI ?_|refine fI ?_|fail);conv=>whnf)
      exact⟨k+1,sI,by omega,by dsimp only;omega⟩
   ·rw[wz h9,if_neg (by decide)] at hsu
    repeat' ((first|refine nI ?_|refine aI ?_|refine tI ?_|refine fI ?_|fail);conv=>whnf)
    exact⟨k+1,sI,by omega,by dsimp only;omega⟩
  ·obtain rfl:k=i:=by omega
   exact⟨gN he,rfl⟩
theorem br {c:ay} (hw:bh c=false):c.shape.length<=100/\c.states.length<=100/\c.sent.length<=100/\c.faulty.length<=100:=by
 unfold bh at hw
 simp at hw
 omega
def GX (p:an) (c:ay):Prop:=iy c.states p.states.length/\0<=c.correct/\c.correct<=c.states.length
noncomputable instance decPl (p:an) (c:ay):Decidable (GX p c):=Classical.propDecidable _
def IV (p:an) (c:ay):Prop:=p.topology=4->c.shape.length=c.states.length/\shp c.shape
noncomputable instance decTr (p:an) (c:ay):Decidable (IV p c):=Classical.propDecidable _
theorem z7 {l:List Int} {n:Int} {k:Nat} (h:∀j,j<k->0<=l.getD j 0/\l.getD j 0<n) (hk:l.length<=k):iy l n:=fun j hj=>h j (by omega)
theorem E4 (p:an) (c:ay) (hp:¬cp p) (hw:bh c=false):ab Tryz.prog 71 [.agg (aB p), .agg (bd c), .bool false] (fun u=>u= .int .i64 (if GX p c then 0 else 1)):=by
 have hle:=aO hp
 have hc:=br hw
 refine ab.intro ac ae Tryz.func71 rfl (by decide) ?_;(conv=>whnf)
 refine ak rfl ?_
 conv=>whnf
 refine ak rfl ?_
 conv=>whnf
 refine aF.loopF ac ae (fun k:Nat=>k<=c.states.length/\∀j,j<k->0<=c.states.getD j 0/\c.states.getD j 0<p.states.length) (fun k=>[(12, .int .i64 (k:Int))]) (fun _=>[]) (fun k=>c.states.length-k) 0 ⟨by omega,fun j hj=>by omega⟩ ?_;conv=>whnf
 refine⟨sI,?_⟩
 rintro k ⟨hk,ha⟩
 conv=>whnf
 refine ag ?_ ?_<;>(intro h1;conv=>whnf)
 ·refine nI ?_
  rw[tN]
  conv=>whnf
  by_cases h2:0<=c.states.getD k 0/\c.states.getD k 0<p.states.length
  ·repeat' ((first|refine nI ?_|refine aI ?_|refine tI ?_|refine fI ?_|fail);conv=>whnf)
   refine⟨k+1,sI,⟨by omega,fun j hj=>?_⟩,by dsimp only;omega⟩
   by_cases e:j=k
   ·subst e;exact h2
   ·exact ha j (by omega)
  ·repeat' ((first|refine nI ?_|refine aI ?_|refine uI ?_|refine vI ?_|refine dI ?_|refine dR ?_|refine dP ?_|refine ak rfl ?_|refine pI _ rfl ?_|refine ap _ rfl ?_|refine tI ?_|refine fI ?_|refine ag (fun _=>?_) (fun _=>?_))<;>conv=>whnf)
   all_goals exact⟨ah (by rw[if_neg (fun h=>h2 (h.1 k (by omega)))]),rfl⟩
 have hin:=z7 ha (by omega)
 by_cases h3:0<=c.correct/\c.correct<=c.states.length
 ·repeat' ((first|refine nI ?_|refine aI ?_|refine tI ?_|refine fI ?_|fail);conv=>whnf)
  exact⟨ah (by rw[if_pos ⟨hin,h3⟩]),rfl⟩
 ·repeat' ((first|refine nI ?_|refine aI ?_|refine uI ?_|refine vI ?_|refine dI ?_|refine dR ?_|refine dP ?_|refine ak rfl ?_|refine pI _ rfl ?_|refine ap _ rfl ?_|refine tI ?_|refine fI ?_|refine ag (fun _=>?_) (fun _=>?_))<;>conv=>whnf)
  all_goals exact⟨ah (by rw[if_neg (fun h=>h3 h.2)]),rfl⟩
def jD (q:aE) (c:ay):Prop:=∀j:Nat,(j:Int)<c.correct->c.states.getD j 0∈q.goal
noncomputable instance decRch (q:aE) (c:ay):Decidable (jD q c):=Classical.propDecidable _
theorem ql {l:List Int} {k n:Nat} (h:k<n):(l.take n).getD k 0=l.getD k 0:=by
 rw[gD,gD,List.getElem?_take,if_pos h]
theorem tB (q:aE) (c:ay) (hq:¬iX q) (hw:bh c=false) (hc0:0<=c.correct/\c.correct<=c.states.length):ab Tryz.prog 72 [.agg (cJ q), .agg (bd c)] (fun u=>u= .bool (decide (jD q c))):=by
 have hlq:=iY hq
 have hc:=br hw
 have hlen:(c.states.take c.correct.toNat).length=c.correct.toNat:=by rw[List.length_take];omega
 refine ab.intro ac ae Tryz.func72 rfl (by decide) ?_;(conv=>whnf)
 refine ak rfl ?_
 conv=>whnf
 refine ak rfl ?_
 conv=>whnf
 refine nI ?_
 conv=>whnf
 refine aF.loopF ac ae (fun k:Nat=>k<=c.correct.toNat/\∀j,j<k->c.states.getD j 0∈q.goal) (fun k=>[(13, .int .i64 (k:Int))]) (fun _=>[]) (fun k=>c.correct.toNat-k) 0 ⟨by omega,fun j hj=>by omega⟩ ?_;conv=>whnf
 refine⟨sI,?_⟩
 rintro k ⟨hk,ha⟩
 conv=>whnf
 refine ag ?_ ?_<;>(intro h1;conv=>whnf)
 ·refine nI ?_
  rw[tN]
  conv=>whnf
  refine dC (bo q.goal _ (by omega)) (fun _=>?_) (fun _=>?_)<;>(conv=>whnf)
  ·rename_i h2
   rw[ql (by omega)] at h2
   repeat' ((first|refine nI ?_|refine aI ?_|refine tI ?_|refine fI ?_|fail);conv=>whnf)
   refine⟨k+1,sI,⟨by omega,fun j hj=>?_⟩,by dsimp only;omega⟩
   by_cases e:j=k
   ·subst e;exact h2
   ·exact ha j (by omega)
  ·rename_i h2
   rw[ql (by omega)] at h2
   exact⟨al (fun h=>h2 (h k (by omega))),rfl⟩
 ·exact⟨av (fun j hj=>ha j (by omega)),rfl⟩
noncomputable def HO (p:an) (q:aE) (c:ay):AV:=
 if aU p q≠0 then .tup [.bool false, .int .i64 (aU p q)] else if q.kind≠2 then .tup [.bool false, .int .i64 7] else if GX p c then .tup [.bool (decide (jD q c)), .int .i64 0] else .tup [.bool false, .int .i64 1]
theorem z8 (p:an) (q:aE) (c:ay) (hp:¬cp p) (hq:¬iX q) (hw:bh c=false):ab Tryz.prog 22 [.agg (aB p), .agg (cJ q), .agg (bd c)] (fun u=>u=HO p q c):=by
 have he:=HO.eq_1 p q c
 refine ab.intro ac ae Tryz.func22 rfl (by decide) ?_;(conv=>whnf)
 refine ak rfl ?_
 conv=>whnf
 refine ak rfl ?_
 conv=>whnf
 refine ak rfl ?_
 conv=>whnf
 (refine oP (iq p q (iT hp) (oz hq)) ?_;conv=>whnf)
 refine ag ?_ ?_<;>(intro h1;conv=>whnf)
 ·rw[if_pos h1] at he;exact⟨he.symm,rfl⟩
 rw[if_neg h1] at he
 refine ag ?_ ?_<;>(intro h2;conv=>whnf)
 ·rw[if_pos h2] at he;exact⟨he.symm,rfl⟩
 rw[if_neg h2] at he
 (refine oP (E4 p c hp hw) ?_;conv=>whnf)
 by_cases h3:GX p c
 ·rw[if_pos h3] at he
  rw[if_pos h3]
  repeat' ((first|refine nI ?_|refine aI ?_|refine tI ?_|refine fI ?_|fail);conv=>whnf)
  (refine oP (tB q c hq hw h3.2) ?_;conv=>whnf)
  exact⟨he.symm,rfl⟩
 ·rw[if_neg h3] at he
  rw[if_neg h3]
  repeat' ((first|refine nI ?_|refine aI ?_|refine tI ?_|refine fI ?_|fail);conv=>whnf)
  exact⟨he.symm,rfl⟩
def HP (S L:List Int):Nat:=L.countP (fun x=>decide (x∈S))
theorem CN {l:List Int} {n:Int} (h:bw l n=0):iy l n/\uW l:=by
 unfold bw at h
 by_cases h1:iy l n
 ·rw[if_pos h1] at h
  by_cases h2:uW l
  ·exact⟨h1,h2⟩
  ·rw[if_neg h2] at h;omega
 ·rw[if_neg h1] at h;omega
theorem bG:∀{l:List Int},cb l=0->∀x∈l,x=0
 |[],_,x,hx=>by cases hx
 |a::l,h,x,hx=>by
  by_cases ha:a=0
  ·rw[be ha] at h
   rcases List.mem_cons.1 hx with rfl|hx
   ·exact ha
   ·exact bG h x hx
  ·rw[bV ha] at h;omega
theorem z9 {t:Int} {l:List Int} {n i:Nat} (hi:i<n):HD t l n i=(om t l n i,oo t l n i,pu t l n i):=by
 unfold HD om oo pu
 rw[if_neg (by omega)]
 by_cases h2:t=2
 ·rw[if_pos h2,if_pos h2,if_pos h2,if_neg (show¬(t=4/\ol t l n=true) from fun h=>by have:=h.1;omega)]
  refine Prod.ext rfl (Prod.ext ?_ rfl)
  dsimp only
  split<;>split<;>omega
 ·rw[if_neg h2,if_neg h2,if_neg h2]
  by_cases h3:t=3
  ·rw[if_pos h3,if_pos h3,if_pos h3,if_neg (show¬(t=4/\ol t l n=true) from fun h=>by have:=h.1;omega)]
   refine Prod.ext ?_ (Prod.ext ?_ rfl)<;>dsimp only<;>split<;>split<;>omega
  ·rw[if_neg h3,if_neg h3,if_neg h3]
   have e:(t=4/\(l.length:Int)=n/\shp l)↔(t=4/\ol t l n=true):=by
    unfold ol
    rw[decide_eq_true_iff]
    constructor
    ·rintro⟨a,b,c⟩;exact⟨a,fun _=>⟨c,by omega⟩⟩
    ·rintro⟨a,b⟩;exact⟨a,by have:=(b a).2;omega,(b a).1⟩
   by_cases h4:t=4/\(l.length:Int)=n/\shp l
   ·rw[if_pos h4,if_pos (e.1 h4),if_pos (e.1 h4),if_pos (e.1 h4),tN]
   ·rw[if_neg h4,if_neg (fun h=>h4 (e.2 h)),if_neg (fun h=>h4 (e.2 h)),if_neg (fun h=>h4 (e.2 h))]
theorem Ef {t:Int} {l:List Int} {n i:Nat} (hi:i<n):om t l n i<n/\oo t l n i<n:=by
 unfold om oo
 by_cases h2:t=2
 ·rw[if_pos h2,if_pos h2];constructor
  ·omega
  ·split<;>omega
 ·rw[if_neg h2,if_neg h2]
  by_cases h3:t=3
  ·rw[if_pos h3,if_pos h3];constructor<;>split<;>omega
  ·rw[if_neg h3,if_neg h3]
   by_cases h4:t=4/\ol t l n=true
   ·rw[if_pos h4,if_pos h4]
    obtain⟨h5,h6⟩:=h4
    unfold ol at h6
    rw[decide_eq_true_iff] at h6
    obtain⟨h7,h8⟩:=h6 h5
    unfold gY fj
    by_cases h9:l.getD i 0=2
    ·have:=h7.two (by omega) h9
     rw[if_pos h9,if_pos h9];constructor<;>omega
    ·rw[if_neg h9,if_neg h9];constructor<;>omega
   ·rw[if_neg h4,if_neg h4];constructor<;>omega
def Eg (c:ay) (x v:Int):Prop:=0<=x/\c.states.getD x.toNat 0=v
def IW (p:an) (c:ay) (a b:Int) (i:Nat):Prop:=c.states.getD i 0=a/\(Eg c (oo p.topology c.shape c.states.length i) b\/(p.topology=4/\Eg c (om p.topology c.shape c.states.length i) b))
def GY (p:an) (c:ay) (l:List Int):Prop:=∃i,i<c.states.length/\IW p c (l.getD 0 0) (l.getD 1 0) i
noncomputable instance decAdj (p:an) (c:ay) (l:List Int):Decidable (GY p c l):=Classical.propDecidable _
end Go.Proofs.YtekmminpfhacpaaGreatDoor
