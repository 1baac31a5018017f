import Derived.Test.YtekmminpfhacpaaGreatDoorM4
set_option linter.unusedVariables false
set_option linter.unusedSimpArgs false
namespace Go.Proofs.YtekmminpfhacpaaGreatDoor
set_option maxRecDepth 100000
set_option maxHeartbeats 8000000
structure KS where
 states:List Int
 least:Int
structure aP where
 name:ByteArray
 kind:Int
 start:List Int
 bad:List KS
 adjacent:List Int
 goal:List Int
def b9:KS:=⟨[],0⟩
def iQ (c:KS):List AV:=[.sl 0 al c.states, .int .i64 c.least]
def eO (q:aP):List AV:=[.str q.name, .int .i64 q.kind, .sl 0 al q.start, .sl b9 iQ q.bad, .sl 0 al q.adjacent, .sl 0 al q.goal]
def Bg (q:aP):Prop:=500<q.name.size\/60<q.start.length\/60<q.bad.length\/60<q.adjacent.length\/60<q.goal.length\/∃j,j<q.bad.length/\60<(q.bad.getD j b9).states.length
instance (q:aP):Decidable (Bg q):=inferInstanceAs (Decidable (_\/_))
theorem w6 {q:aP} (h:¬Bg q):q.name.size<=500/\q.start.length<=60/\q.bad.length<=60/\q.adjacent.length<=60/\q.goal.length<=60:=by
 unfold Bg at h
 omega
theorem Gn {q:aP} (h:¬Bg q):∀j,j<q.bad.length->(q.bad.getD j b9).states.length<=60:=fun j hj=>by
 have:¬(60<(q.bad.getD j b9).states.length):=fun h2=>h (.inr (.inr (.inr (.inr (.inr ⟨j,hj,h2⟩)))))
 omega
def rS (q:aP):Prop:=(q.name.size<=140737488355328/\q.start.length<=140737488355328/\q.bad.length<=140737488355328/\q.adjacent.length<=140737488355328/\q.goal.length<=140737488355328)/\∀j,j<q.bad.length->(q.bad.getD j b9).states.length<=140737488355328
theorem LZ {q:aP} (h:¬Bg q):rS q:=⟨by have:=w6 h;omega,fun j hj=>by have:=Gn h j hj;omega⟩
theorem w7 {q:aP} (h:rS q):q.name.size<=140737488355328/\q.start.length<=140737488355328/\q.bad.length<=140737488355328/\q.adjacent.length<=140737488355328/\q.goal.length<=140737488355328:=h.1
theorem rT {q:aP} (h:rS q):∀j,j<q.bad.length->(q.bad.getD j b9).states.length<=140737488355328:=h.2
theorem JB (l:List Int) (s:Int) (hl:l.length<=4503599627370496):ah Tryz.prog 175 [.sl 0 al l, .int .i64 s] (fun u=>∃n:Int,u= .int .i64 n/\(0<=n↔s∈l)):=by
 refine ah.intro ab ac Tryz.func175 rfl (by decide) ?_;(conv=>whnf)
 refine aJ.loopF ab ac (fun k:Nat=>k<=l.length/\s∉l.take k) (fun k=>[(8, .int .i64 (k:Int))]) (fun _=>[]) (fun k=>l.length-k) 0 ⟨by omega,by simp⟩ ?_;conv=>whnf
 refine⟨sI,?_⟩
 rintro k ⟨hk,ha⟩
 conv=>whnf
 repeat' ((first|refine nI ?_|refine aI ?_|refine uI ?_|refine vI ?_|refine dI ?_|refine dR ?_|refine dP ?_|refine au rfl ?_|refine pI _ rfl ?_|refine ak _ rfl ?_|refine tI ?_|refine fI ?_|refine ae (fun _=>?_) (fun _=>?_))<;>conv=>whnf)
 ·rename_i h1 h2
  rw[tN] at h2
  refine⟨⟨k,rfl,fun _=>?_,fun _=>by omega⟩,rfl⟩
  rw[h2,gD,gL (by omega)]
  exact List.getElem_mem _
 ·rename_i h1 h2
  rw[tN] at h2
  refine⟨k+1,sI,⟨by omega,?_⟩,by dsimp only;omega⟩
  rw[List.take_succ_eq_append_getElem (by omega),List.mem_append,List.mem_singleton,not_or]
  refine⟨ha,?_⟩
  rw[gD,gL (by omega)] at h2
  exact h2
 ·obtain rfl:k=l.length:=by omega
  rw[List.take_length] at ha
  exact⟨⟨-1,rfl,fun h=>by omega,fun h=>absurd h ha⟩,rfl⟩
theorem dB (l:List Int) (s:Int) (hl:l.length<=4503599627370496):ah Tryz.prog 82 [.sl 0 al l, .int .i64 s] (fun u=>u= .bool (decide (s∈l))):=by
 refine ah.intro ab ac Tryz.func82 rfl (by decide) ?_;(conv=>whnf)
 refine aj.of_pure (n:=5) (JB l s hl) rfl ?_
 rintro _ ⟨n,rfl,hn⟩
 conv=>whnf
 refine ae ?_ ?_<;>(intro h;conv=>whnf)
 ·exact⟨bE (hn.1 h),rfl⟩
 ·exact⟨aA (fun hh=>h (hn.2 hh)),rfl⟩
theorem PG (l:List Int) (s:Int) (hl:l.length<=4503599627370496):ah Tryz.prog 203 [.sl 0 al l, .int .i64 s] (fun u=>u= .bool (decide (s∈l))):=by
 refine ah.intro ab ac Tryz.func203 rfl (by decide) ?_;(conv=>whnf)
 refine aJ.loopF ab ac (fun k:Nat=>k<=l.length/\s∉l.take k) (fun k=>[(5, .int .i64 (k:Int))]) (fun _=>[]) (fun k=>l.length-k) 0 ⟨by omega,by simp⟩ ?_;conv=>whnf
 refine⟨sI,?_⟩
 rintro k ⟨hk,ha⟩
 conv=>whnf
 repeat' ((first|refine nI ?_|refine aI ?_|refine uI ?_|refine vI ?_|refine dI ?_|refine dR ?_|refine dP ?_|refine au rfl ?_|refine pI _ rfl ?_|refine ak _ rfl ?_|refine tI ?_|refine fI ?_|refine ae (fun _=>?_) (fun _=>?_))<;>conv=>whnf)
 ·rename_i h1 h2
  rw[tN] at h2
  refine⟨bE ?_,rfl⟩
  rw[<-h2,gD,gL (by omega)]
  exact List.getElem_mem _
 ·rename_i h1 h2
  rw[tN] at h2
  refine⟨k+1,sI,⟨by omega,?_⟩,by dsimp only;omega⟩
  rw[List.take_succ_eq_append_getElem (by omega),List.mem_append,List.mem_singleton,not_or]
  refine⟨ha,fun e=>h2 ?_⟩
  rw[gD,gL (by omega)]
  exact e.symm
 ·obtain rfl:k=l.length:=by omega
  rw[List.take_length] at ha
  exact⟨aA ha,rfl⟩
def El (n:Int) (c:KS):Int:=dH [ca c.states n,(if c.states.length=0\/c.least<1\/3<c.least then 1 else 0)]
def rj (n:Int) (l:List KS):Int:=dH (l.map (El n))
def qv (p:av) (l:List Int):Int:=if l.length=0 then 0 else if p.topology=1 then 6 else if l.length≠2 then 1 else dH [dA (l.getD 0 0) p.states.length,dA (l.getD 1 0) p.states.length]
def bD (p:av) (q:aP):Int:=
 if aX p≠0 then aX p else if¬c9 q.name then 2 else if q.kind≠1/\q.kind≠2 then 1
 else if(q.kind=1/\0<q.goal.length)\/(q.kind=2/\(0<q.bad.length\/0<q.adjacent.length)) then 1
 else if ca q.start p.states.length≠0 then ca q.start p.states.length
 else if¬(∀j,j<q.start.length->q.start.getD j 0∈p.initial) then 5
 else if q.kind=2 then dH [ca q.goal p.states.length,(if q.goal.length=0 then 1 else 0)]
 else dH [(if q.bad.length=0/\q.adjacent.length=0 then 1 else 0),(if 3<q.bad.length then 4 else 0),rj p.states.length q.bad,qv p q.adjacent]
theorem tF (l:List KS) (n:Int) (hl:l.length<=4503599627370496) (hs:∀j,j<l.length->(l.getD j b9).states.length<=140737488355328):ah Tryz.prog 158 [.sl b9 iQ l, .int .i64 n] (fun u=>u= .int .i64 (rj n l)):=by
 refine ah.intro ab ac Tryz.func158 rfl (by decide) ?_;(conv=>whnf)
 refine aJ.loopF ab ac (fun k:Nat=>k<=l.length/\rj n l=dH ((l.drop k).map (El n))) (fun k=>[(10, .int .i64 (k:Int))]) (fun _=>[]) (fun k=>l.length-k) 0 ⟨by omega,rfl⟩ ?_;conv=>whnf
 refine⟨sI,?_⟩
 rintro k ⟨hk,he⟩
 conv=>whnf
 refine ae ?_ ?_<;>(intro h1;conv=>whnf)
 ·rw[fp _ b9 (by omega)] at he
  have hlen:=hs k (by omega)
  refine nI ?_
  rw[tN]
  generalize l.getD k b9=g at he hlen
  conv=>whnf
  refine dI ?_
  conv=>whnf
  (refine oC (oc g.states n (by omega)) ?_;conv=>whnf)
  have fin:∀c:Int,c=(if g.states.length=0\/g.least<1\/3<g.least then 1 else 0)->dH [ca g.states n,c]=El n g:=by rintro c rfl;rfl
  by_cases hc:g.states.length=0\/g.least<1\/3<g.least
  ·have ec:=fin 1 (by rw[if_pos hc])
   repeat' ((first|refine nI ?_|refine aI ?_|refine uI ?_|refine vI ?_|refine dI ?_|refine dR ?_|refine dP ?_|refine au rfl ?_|refine pI _ rfl ?_|refine ak _ rfl ?_|refine tI ?_|refine fI ?_|refine ae (fun _=>?_) (fun _=>?_))<;>conv=>whnf)
   all_goals
    (refine oC (jW 1) ?_;conv=>whnf)
    refine eH ?_
    conv=>whnf
    (refine oC (dh _ (by simp)) ?_;conv=>whnf)
    rw[ec]
    refine ae ?_ ?_<;>(intro h2;conv=>whnf)
    ·rw[if_pos h2] at he
     exact⟨ao he.symm,rfl⟩
    ·rw[if_neg h2] at he
     repeat' ((first|refine nI ?_|refine aI ?_|refine uI ?_|refine vI ?_|refine dI ?_|refine dR ?_|refine dP ?_|refine au rfl ?_|refine pI _ rfl ?_|refine ak _ rfl ?_|refine tI ?_|refine fI ?_|refine ae (fun _=>?_) (fun _=>?_))<;>conv=>whnf)
     exact⟨k+1,sI,⟨by omega,he⟩,by dsimp only;omega⟩
  ·have ec:=fin 0 (by rw[if_neg hc])
   repeat' ((first|refine nI ?_|refine aI ?_|refine tI ?_|refine fI ?_|fail);conv=>whnf)
   (refine oC (iY 1) ?_;conv=>whnf)
   refine eH ?_
   conv=>whnf
   (refine oC (dh _ (by simp)) ?_;conv=>whnf)
   rw[ec]
   refine ae ?_ ?_<;>(intro h2;conv=>whnf)
   ·rw[if_pos h2] at he
    exact⟨ao he.symm,rfl⟩
   ·rw[if_neg h2] at he
    repeat' ((first|refine nI ?_|refine aI ?_|refine uI ?_|refine vI ?_|refine dI ?_|refine dR ?_|refine dP ?_|refine au rfl ?_|refine pI _ rfl ?_|refine ak _ rfl ?_|refine tI ?_|refine fI ?_|refine ae (fun _=>?_) (fun _=>?_))<;>conv=>whnf)
    exact⟨k+1,sI,⟨by omega,he⟩,by dsimp only;omega⟩
 ·rw[List.drop_of_length_le (by omega)] at he
  exact⟨ao he.symm,rfl⟩
theorem Gp (p:av) (l:List Int):ah Tryz.prog 159 [.agg (cV p), .sl 0 al l] (fun u=>u= .int .i64 (qv p l)):=by
 have he:=qv.eq_1 p l
 refine ah.intro ab ac Tryz.func159 rfl (by decide) ?_;(conv=>whnf)
 refine au rfl ?_
 conv=>whnf
 refine ae ?_ ?_<;>(intro h1;conv=>whnf)
 ·rw[if_pos (by omega)] at he;exact⟨ao he.symm,rfl⟩
 rw[if_neg (by omega)] at he
 refine ae ?_ ?_<;>(intro h2;conv=>whnf)
 ·rw[if_pos h2] at he;exact⟨ao he.symm,rfl⟩
 rw[if_neg h2] at he
 refine ae ?_ ?_<;>(intro h3;conv=>whnf)
 ·rw[if_pos (by omega)] at he;exact⟨ao he.symm,rfl⟩
 rw[if_neg (by omega)] at he
 refine dI ?_
 conv=>whnf
 refine nI ?_
 conv=>whnf
 (refine oC (iM _ _) ?_;conv=>whnf)
 refine nI ?_
 conv=>whnf
 (refine oC (iM _ _) ?_;conv=>whnf)
 refine eH ?_
 conv=>whnf
 (refine oC (dh _ (by simp)) ?_;conv=>whnf)
 exact⟨ao he.symm,rfl⟩
theorem vL (p:av) (q:aP) (hp:lO p) (hq:rS q):ah Tryz.prog 70 [.agg (cV p), .agg (eO q)] (fun u=>u= .int .i64 (bD p q)):=by
 have hle:=kj hp
 have hlq:=w7 hq
 have he:=bD.eq_1 p q
 refine ah.intro ab ac Tryz.func70 rfl (by decide) ?_;(conv=>whnf)
 refine au rfl ?_
 conv=>whnf
 refine au rfl ?_
 conv=>whnf
 (refine oP (qr p hp) ?_;conv=>whnf)
 refine ae ?_ ?_<;>(intro h1;conv=>whnf)
 ·rw[if_pos h1] at he;exact⟨ao he.symm,rfl⟩
 rw[if_neg h1] at he
 refine ae ?_ ?_<;>(intro hk;conv=>whnf)
 all_goals
  refine dC (fX q.name (by omega)) (fun _=>?_) (fun _=>?_)<;>(conv=>whnf)
  case refine_2=>rename_i hv;rw[if_pos hv] at he;exact⟨ao he.symm,rfl⟩
  rename_i hv
  rw[if_neg (fun h=>h hv)] at he
  by_cases hA:q.kind≠1/\q.kind≠2
  ·rw[if_pos hA] at he
   repeat' ((first|refine nI ?_|refine aI ?_|refine uI ?_|refine vI ?_|refine dI ?_|refine dR ?_|refine dP ?_|refine au rfl ?_|refine pI _ rfl ?_|refine ak _ rfl ?_|refine tI ?_|refine fI ?_|refine ae (fun _=>?_) (fun _=>?_))<;>conv=>whnf)
   all_goals exact⟨ao he.symm,rfl⟩
  rw[if_neg hA] at he
  by_cases hB:(q.kind=1/\0<q.goal.length)\/(q.kind=2/\(0<q.bad.length\/0<q.adjacent.length))
  ·rw[if_pos hB] at he
   repeat' ((first|refine nI ?_|refine aI ?_|refine uI ?_|refine vI ?_|refine dI ?_|refine dR ?_|refine dP ?_|refine au rfl ?_|refine pI _ rfl ?_|refine ak _ rfl ?_|refine tI ?_|refine fI ?_|refine ae (fun _=>?_) (fun _=>?_))<;>conv=>whnf)
   all_goals exact⟨ao he.symm,rfl⟩
  rw[if_neg hB] at he
  repeat' ((first|refine nI ?_|refine aI ?_|refine tI ?_|refine fI ?_|fail);conv=>whnf)
  (refine oP (oc q.start _ (by omega)) ?_;conv=>whnf)
  refine ae ?_ ?_<;>(intro h2;conv=>whnf)
  ·rw[if_pos h2] at he;exact⟨ao he.symm,rfl⟩
  rw[if_neg h2] at he
  refine aJ.loopF ab ac (fun k:Nat=>k<=q.start.length/\∀j,j<k->q.start.getD j 0∈p.initial) (fun k=>[(67, .int .i64 (k:Int))]) (fun _=>[]) (fun k=>q.start.length-k) 0 ⟨by omega,fun j hj=>by omega⟩ ?_;conv=>whnf
  refine⟨sI,?_⟩
  rintro k ⟨hk',ha⟩
  conv=>whnf
  refine ae ?_ ?_<;>(intro h3;conv=>whnf)
  ·refine nI ?_
   rw[tN]
   conv=>whnf
   refine dC (dB p.initial _ (by omega)) (fun _=>?_) (fun _=>?_)<;>(conv=>whnf)
   ·rename_i hm
    repeat' ((first|refine nI ?_|refine aI ?_|refine tI ?_|refine fI ?_|fail);conv=>whnf)
    refine⟨k+1,sI,⟨by omega,fun j hj=>?_⟩,by dsimp only;omega⟩
    by_cases e:j=k
    ·subst e;exact hm
    ·exact ha j (by omega)
   ·rename_i hm
    rw[if_pos (fun h=>hm (h k (by omega)))] at he
    exact⟨ao he.symm,rfl⟩
  rw[if_neg (fun h=>h (fun j hj=>ha j (by omega)))] at he
  refine dI ?_
  conv=>whnf
 ·rw[if_neg (by omega)] at he
  have fin:∀a b:Int,a=(if q.bad.length=0/\q.adjacent.length=0 then 1 else 0)->b=(if 3<q.bad.length then 4 else 0)->bD p q=dH [a,b,rj p.states.length q.bad,qv p q.adjacent]:=by rintro a b rfl rfl;exact he
  by_cases hC:q.bad.length=0/\q.adjacent.length=0
  ·have f1:=fin 1 0 (by rw[if_pos hC]) (by rw[if_neg (by omega)])
   repeat' ((first|refine nI ?_|refine aI ?_|refine tI ?_|refine fI ?_|fail);conv=>whnf)
   (refine oC (jW 1) ?_;conv=>whnf)
   repeat' ((first|refine nI ?_|refine aI ?_|refine tI ?_|refine fI ?_|fail);conv=>whnf)
   (refine oC (iY 4) ?_;conv=>whnf)
   (refine oC (tF q.bad _ (by omega) (rT hq)) ?_;conv=>whnf)
   (refine oC (Gp p q.adjacent) ?_;conv=>whnf)
   refine eH ?_
   conv=>whnf
   (refine oC (dh _ (by simp)) ?_;conv=>whnf)
   exact⟨ao f1.symm,rfl⟩
  ·by_cases hD:3<q.bad.length
   ·have f1:=fin 0 4 (by rw[if_neg hC]) (by rw[if_pos hD])
    repeat' ((first|refine nI ?_|refine aI ?_|refine uI ?_|refine vI ?_|refine dI ?_|refine dR ?_|refine dP ?_|refine au rfl ?_|refine pI _ rfl ?_|refine ak _ rfl ?_|refine tI ?_|refine fI ?_|refine ae (fun _=>?_) (fun _=>?_))<;>conv=>whnf)
    all_goals
     (refine oC (iY 1) ?_;conv=>whnf)
     repeat' ((first|refine nI ?_|refine aI ?_|refine tI ?_|refine fI ?_|fail);conv=>whnf)
     (refine oC (jW 4) ?_;conv=>whnf)
     (refine oC (tF q.bad _ (by omega) (rT hq)) ?_;conv=>whnf)
     (refine oC (Gp p q.adjacent) ?_;conv=>whnf)
     refine eH ?_
     conv=>whnf
     (refine oC (dh _ (by simp)) ?_;conv=>whnf)
     exact⟨ao f1.symm,rfl⟩
   ·have f1:=fin 0 0 (by rw[if_neg hC]) (by rw[if_neg hD])
    repeat' ((first|refine nI ?_|refine aI ?_|refine uI ?_|refine vI ?_|refine dI ?_|refine dR ?_|refine dP ?_|refine au rfl ?_|refine pI _ rfl ?_|refine ak _ rfl ?_|refine tI ?_|refine fI ?_|refine ae (fun _=>?_) (fun _=>?_))<;>conv=>whnf)
    all_goals
     (refine oC (iY 1) ?_;conv=>whnf)
     repeat' ((first|refine nI ?_|refine aI ?_|refine tI ?_|refine fI ?_|fail);conv=>whnf)
     (refine oC (iY 4) ?_;conv=>whnf)
     (refine oC (tF q.bad _ (by omega) (rT hq)) ?_;conv=>whnf)
     (refine oC (Gp p q.adjacent) ?_;conv=>whnf)
     refine eH ?_
     conv=>whnf
     (refine oC (dh _ (by simp)) ?_;conv=>whnf)
     exact⟨ao f1.symm,rfl⟩
 ·rw[if_pos (by omega)] at he
  (refine oC (oc q.goal _ (by omega)) ?_;conv=>whnf)
  by_cases hC:q.goal.length=0
  ·rw[if_pos hC] at he
   repeat' ((first|refine nI ?_|refine aI ?_|refine tI ?_|refine fI ?_|fail);conv=>whnf)
   (refine oC (jW 1) ?_;conv=>whnf)
   refine eH ?_
   conv=>whnf
   (refine oC (dh _ (by simp)) ?_;conv=>whnf)
   exact⟨ao he.symm,rfl⟩
  ·rw[if_neg hC] at he
   repeat' ((first|refine nI ?_|refine aI ?_|refine tI ?_|refine fI ?_|fail);conv=>whnf)
   (refine oC (iY 1) ?_;conv=>whnf)
   refine eH ?_
   conv=>whnf
   (refine oC (dh _ (by simp)) ?_;conv=>whnf)
   exact⟨ao he.symm,rfl⟩
theorem vM (p:av) (q:aP) (hp:lO p) (hq:rS q):ah Tryz.prog 111 [.agg (cV p), .agg (eO q)] (fun u=>u= .int .i64 (bD p q)):=by
 have hle:=kj hp
 have hlq:=w7 hq
 have he:=bD.eq_1 p q
 refine ah.intro ab ac Tryz.func111 rfl (by decide) ?_;(conv=>whnf)
 refine au rfl ?_
 conv=>whnf
 refine au rfl ?_
 conv=>whnf
 (refine oP (qt p hp) ?_;conv=>whnf)
 refine ae ?_ ?_<;>(intro h1;conv=>whnf)
 ·rw[if_pos h1] at he;exact⟨ao he.symm,rfl⟩
 rw[if_neg h1] at he
 refine dC (lq q.name (by omega)) (fun _=>?_) (fun _=>?_)<;>(conv=>whnf)
 case refine_2=>rename_i hv;rw[if_pos hv] at he;exact⟨ao he.symm,rfl⟩
 rename_i hv
 rw[if_neg (fun h=>h hv)] at he
 by_cases hA:q.kind≠1/\q.kind≠2
 ·rw[if_pos hA] at he
  repeat' ((first|refine nI ?_|refine aI ?_|refine uI ?_|refine vI ?_|refine dI ?_|refine dR ?_|refine dP ?_|refine au rfl ?_|refine pI _ rfl ?_|refine ak _ rfl ?_|refine tI ?_|refine fI ?_|refine ae (fun _=>?_) (fun _=>?_))<;>conv=>whnf)
  all_goals exact⟨ao he.symm,rfl⟩
 rw[if_neg hA] at he
 by_cases hB:(q.kind=1/\0<q.goal.length)\/(q.kind=2/\(0<q.bad.length\/0<q.adjacent.length))
 ·rw[if_pos hB] at he
  repeat' ((first|refine nI ?_|refine aI ?_|refine uI ?_|refine vI ?_|refine dI ?_|refine dR ?_|refine dP ?_|refine au rfl ?_|refine pI _ rfl ?_|refine ak _ rfl ?_|refine tI ?_|refine fI ?_|refine ae (fun _=>?_) (fun _=>?_))<;>conv=>whnf)
  all_goals exact⟨ao he.symm,rfl⟩
 rw[if_neg hB] at he
 have hk12:q.kind=1\/q.kind=2:=by omega
 rcases hk12 with hk|hk
 all_goals
  repeat' ((first|refine nI ?_|refine aI ?_|refine tI ?_|refine fI ?_|fail);conv=>whnf)
  (refine oP (tx q.start _ (by omega) (by omega)) ?_;conv=>whnf)
  refine ae ?_ ?_<;>(intro h2;conv=>whnf)
  ·rw[if_pos h2] at he;exact⟨ao he.symm,rfl⟩
  rw[if_neg h2] at he
  refine aJ.loopF ab ac (fun k:Nat=>k<=q.start.length/\∀j,j<k->q.start.getD j 0∈p.initial) (fun k=>[(8, .int .i64 (k:Int))]) (fun _=>[]) (fun k=>q.start.length-k) 0 ⟨by omega,fun j hj=>by omega⟩ ?_;conv=>whnf
  refine⟨sI,?_⟩
  rintro k ⟨hk',ha⟩
  conv=>whnf
  refine ae ?_ ?_<;>(intro h3;conv=>whnf)
  ·refine dI ?_
   conv=>whnf
   refine nI ?_
   rw[tN]
   conv=>whnf
   refine dD (PG p.initial _ (by omega)) (fun _=>?_) (fun _=>?_)<;>(conv=>whnf)
   ·rename_i hm
    repeat' ((first|refine nI ?_|refine aI ?_|refine tI ?_|refine fI ?_|fail);conv=>whnf)
    refine⟨k+1,sI,⟨by omega,fun j hj=>?_⟩,by dsimp only;omega⟩
    by_cases e:j=k
    ·subst e;exact hm
    ·exact ha j (by omega)
   ·rename_i hm
    rw[if_pos (fun h=>hm (h k (by omega)))] at he
    exact⟨ao he.symm,rfl⟩
  rw[if_neg (fun h=>h (fun j hj=>ha j (by omega)))] at he
  repeat' ((first|refine nI ?_|refine aI ?_|refine tI ?_|refine fI ?_|fail);conv=>whnf)
 ·rw[if_neg (by omega)] at he
  by_cases hC:q.bad.length=0/\q.adjacent.length=0
  ·rw[if_pos hC] at he
   repeat' ((first|refine nI ?_|refine aI ?_|refine tI ?_|refine fI ?_|fail);conv=>whnf)
   exact⟨ao he.symm,rfl⟩
  rw[if_neg hC] at he
  have he:bD p q=dH [(if 3<q.bad.length then 4 else 0),rj p.states.length q.bad,qv p q.adjacent]:=he
  by_cases hD:3<q.bad.length
  ·rw[if_pos hD] at he
   repeat' ((first|refine nI ?_|refine aI ?_|refine uI ?_|refine vI ?_|refine dI ?_|refine dR ?_|refine dP ?_|refine au rfl ?_|refine pI _ rfl ?_|refine ak _ rfl ?_|refine tI ?_|refine fI ?_|refine ae (fun _=>?_) (fun _=>?_))<;>conv=>whnf)
   all_goals exact⟨ao he.symm,rfl⟩
  rw[if_neg hD] at he
  have he:bD p q=dH [rj p.states.length q.bad,qv p q.adjacent]:=he
  repeat' ((first|refine nI ?_|refine aI ?_|refine uI ?_|refine vI ?_|refine dI ?_|refine dR ?_|refine dP ?_|refine au rfl ?_|refine pI _ rfl ?_|refine ak _ rfl ?_|refine tI ?_|refine fI ?_|refine ae (fun _=>?_) (fun _=>?_))<;>conv=>whnf)
  all_goals
   refine aJ.loopF ab ac (fun k:Nat=>k<=q.bad.length/\rj p.states.length q.bad=dH ((q.bad.drop k).map (El p.states.length))) (fun k=>[(10, .int .i64 (k:Int))]) (fun _=>[]) (fun k=>q.bad.length-k) 0 ⟨by omega,rfl⟩ ?_;conv=>whnf
   refine⟨sI,?_⟩
   rintro k ⟨hk',hr⟩
   conv=>whnf
   refine ae ?_ ?_<;>(intro h3;conv=>whnf)
   ·first
    |(exfalso;omega)
    |rw[fp _ b9 (by omega)] at hr
     have hlen:=rT hq k (by omega)
     refine nI ?_
     rw[tN]
     conv=>whnf
     (refine oP (tx (q.bad.getD k b9).states _ (by omega) (by omega)) ?_;conv=>whnf)
     have hg:=El.eq_1 p.states.length (q.bad.getD k b9)
     refine ae ?_ ?_<;>(intro h4;conv=>whnf)
     ·rw[cZ h4] at hg
      rw[hg,if_pos h4] at hr
      rw[hr,cZ h4] at he
      exact⟨ao he.symm,rfl⟩
     refine nI ?_
     rw[tN]
     conv=>whnf
     rw[bP (by omega)] at hg
     by_cases hc:(q.bad.getD k b9).states.length=0\/(q.bad.getD k b9).least<1\/3<(q.bad.getD k b9).least
     ·rw[if_pos hc] at hg
      rw[hg] at hr
      rw[hr] at he
      by_cases hz:(q.bad.getD k b9).states.length=0
      ·repeat' ((first|refine nI ?_|refine aI ?_|refine tI ?_|refine fI ?_|fail);conv=>whnf)
       exact⟨ao he.symm,rfl⟩
      ·repeat' ((first|refine nI ?_|refine aI ?_|refine tI ?_|refine fI ?_|fail);conv=>whnf)
       refine dC (bV _ _ _) (fun _=>?_) (fun _=>?_)<;>(conv=>whnf)
       ·rename_i h;rw[tN] at h;omega
       ·exact⟨ao he.symm,rfl⟩
     ·rw[if_neg hc] at hg
      rw[hg] at hr
      repeat' ((first|refine nI ?_|refine aI ?_|refine tI ?_|refine fI ?_|fail);conv=>whnf)
      refine dC (bV _ _ _) (fun _=>?_) (fun _=>?_)<;>(conv=>whnf)
      ·repeat' ((first|refine nI ?_|refine aI ?_|refine tI ?_|refine fI ?_|fail);conv=>whnf)
       exact⟨k+1,sI,⟨by omega,hr⟩,by dsimp only;omega⟩
      ·rename_i h;rw[tN] at h;omega
   rw[List.drop_of_length_le (by omega)] at hr
   rw[bP hr] at he
   have he:bD p q=(if qv p q.adjacent≠0 then qv p q.adjacent else 0):=he
   have ha':=qv.eq_1 p q.adjacent
   by_cases h0:q.adjacent.length=0
   ·rw[if_pos h0] at ha'
    rw[ha'] at he
    first
    |(exfalso;omega)
    |skip
     repeat' ((first|refine nI ?_|refine aI ?_|refine tI ?_|refine fI ?_|fail);conv=>whnf)
     refine aJ.loopF ab ac (fun i:Nat=>i=0) (fun i=>[(12, .int .i64 (i:Int))]) (fun _=>[]) (fun _=>0) 0 rfl ?_;conv=>whnf
     refine⟨sI,?_⟩
     rintro i rfl
     conv=>whnf
     repeat' ((first|refine nI ?_|refine aI ?_|refine tI ?_|refine fI ?_|fail);conv=>whnf)
     exact⟨ao he.symm,rfl⟩
   rw[if_neg h0] at ha'
   by_cases ht:p.topology=1
   ·rw[if_pos ht] at ha'
    rw[ha'] at he
    repeat' ((first|refine nI ?_|refine aI ?_|refine tI ?_|refine fI ?_|fail);conv=>whnf)
    exact⟨ao he.symm,rfl⟩
   rw[if_neg ht] at ha'
   by_cases h2':q.adjacent.length≠2
   ·rw[if_pos h2'] at ha'
    rw[ha'] at he
    repeat' ((first|refine nI ?_|refine aI ?_|refine tI ?_|refine fI ?_|fail);conv=>whnf)
    exact⟨ao he.symm,rfl⟩
   rw[if_neg h2'] at ha'
   repeat' ((first|refine nI ?_|refine aI ?_|refine tI ?_|refine fI ?_|fail);conv=>whnf)
   refine aJ.loopF ab ac (fun i:Nat=>i<=2/\∀j,j<i->0<=q.adjacent.getD j 0/\q.adjacent.getD j 0<p.states.length) (fun i=>[(12, .int .i64 (i:Int))]) (fun _=>[]) (fun i=>2-i) 0 ⟨by omega,fun j hj=>by omega⟩ ?_;conv=>whnf
   refine⟨sI,?_⟩
   rintro i ⟨hi,hin⟩
   conv=>whnf
   refine ae ?_ ?_<;>(intro h5;conv=>whnf)
   ·refine nI ?_
    rw[tN]
    conv=>whnf
    repeat' ((first|refine nI ?_|refine aI ?_|refine tI ?_|refine fI ?_|fail);conv=>whnf)
    refine dC (bV _ _ _) (fun _=>?_) (fun _=>?_)<;>(conv=>whnf)
    ·rename_i h6
     repeat' ((first|refine nI ?_|refine aI ?_|refine tI ?_|refine fI ?_|fail);conv=>whnf)
     refine⟨i+1,sI,⟨by omega,fun j hj=>?_⟩,by dsimp only;omega⟩
     by_cases e:j=i
     ·subst e;omega
     ·exact hin j (by omega)
    ·rename_i h6
     have h7:qv p q.adjacent=5:=by
      rw[ha']
      have hi2:i=0\/i=1:=by omega
      rcases hi2 with rfl|rfl
      ·rw[cZ (by rw[dA,if_pos (by omega)];decide),dA,if_pos (by omega)]
      ·have:=hin 0 (by omega)
       rw[bP (by rw[dA,if_neg (by omega)]),cZ (by rw[dA,if_pos (by omega)];decide),dA,if_pos (by omega)]
     rw[h7] at he
     exact⟨ao he.symm,rfl⟩
   ·have h7:qv p q.adjacent=0:=by
     rw[ha']
     have a0:=hin 0 (by omega)
     have a1:=hin 1 (by omega)
     rw[bP (by rw[dA,if_neg (by omega)]),bP (by rw[dA,if_neg (by omega)])];rfl
    rw[h7] at he
    exact⟨ao he.symm,rfl⟩
 ·rw[if_pos (by omega)] at he
  (refine oP (tx q.goal _ (by omega) (by omega)) ?_;conv=>whnf)
  refine ae ?_ ?_<;>(intro h4;conv=>whnf)
  ·rw[cZ h4] at he;exact⟨ao he.symm,rfl⟩
  rw[bP (by omega)] at he
  by_cases h5:q.goal.length=0
  ·rw[if_pos h5] at he
   repeat' ((first|refine nI ?_|refine aI ?_|refine tI ?_|refine fI ?_|fail);conv=>whnf)
   exact⟨ao he.symm,rfl⟩
  ·rw[if_neg h5] at he
   repeat' ((first|refine nI ?_|refine aI ?_|refine tI ?_|refine fI ?_|fail);conv=>whnf)
   exact⟨ao he.symm,rfl⟩
theorem JC {c:ct} (hw:vB c=false):c.shape.length<=100/\c.states.length<=100/\c.sent.length<=100/\c.faulty.length<=100:=by
 unfold vB at hw
 simp at hw
 omega
def QC (p:av) (c:ct):Prop:=rE c.states p.states.length/\0<=c.correct/\c.correct<=c.states.length
noncomputable instance decPl (p:av) (c:ct):Decidable (QC p c):=Classical.propDecidable _
def QS (p:av) (c:ct):Prop:=p.topology=4->c.shape.length=c.states.length/\shp c.shape
noncomputable instance decTr (p:av) (c:ct):Decidable (QS p c):=Classical.propDecidable _
def Og (q:aP) (c:ct):Prop:=∀j:Nat,(j:Int)<c.correct->c.states.getD j 0∈q.goal
noncomputable instance decRch (q:aP) (c:ct):Decidable (Og q c):=Classical.propDecidable _
def PH (S L:List Int):Nat:=L.countP (fun x=>decide (x∈S))
theorem JD {l:List Int} {n:Int} (h:ca l n=0):rE l n/\Bb l:=by
 unfold ca at h
 by_cases h1:rE l n
 ·rw[if_pos h1] at h
  by_cases h2:Bb l
  ·exact⟨h1,h2⟩
  ·rw[if_neg h2] at h;omega
 ·rw[if_neg h1] at h;omega
theorem dQ:∀{l:List Int},dH l=0->∀x∈l,x=0
 |[],_,x,hx=>by cases hx
 |a::l,h,x,hx=>by
  by_cases ha:a=0
  ·rw[bP ha] at h
   rcases List.mem_cons.1 hx with rfl|hx
   ·exact ha
   ·exact dQ h x hx
  ·rw[cZ ha] at h;omega
def KT (c:ct) (x v:Int):Prop:=0<=x/\c.states.getD x.toNat 0=v
def QT (p:av) (c:ct) (a b:Int) (i:Nat):Prop:=c.states.getD i 0=a/\(KT c (QB p.topology c.shape c.states.length i) b\/(p.topology=4/\KT c (QA p.topology c.shape c.states.length i) b))
def Oh (p:av) (c:ct) (l:List Int):Prop:=∃i,i<c.states.length/\QT p c (l.getD 0 0) (l.getD 1 0) i
noncomputable instance decAdj (p:av) (c:ct) (l:List Int):Decidable (Oh p c l):=Classical.propDecidable _
end Go.Proofs.YtekmminpfhacpaaGreatDoor
