import Derived.Test.YtekmminpfhacpaaGreatDoorM4
set_option linter.unusedVariables false
set_option linter.unusedSimpArgs false
namespace Go.Proofs.YtekmminpfhacpaaGreatDoor
set_option maxRecDepth 100000
set_option maxHeartbeats 8000000
structure JK where
 states:List Int
 least:Int
structure aG where
 name:ByteArray
 kind:Int
 start:List Int
 bad:List JK
 adjacent:List Int
 goal:List Int
def br:JK:=⟨[],0⟩
def gR (c:JK):List AV:=[.sl 0 ao c.states, .int .i64 c.least]
def df (q:aG):List AV:=[.str q.name, .int .i64 q.kind, .sl 0 ao q.start, .sl br gR q.bad, .sl 0 ao q.adjacent, .sl 0 ao q.goal]
def mK (q:aG):Prop:=500<q.name.size\/60<q.start.length\/60<q.bad.length\/60<q.adjacent.length\/60<q.goal.length\/∃j,j<q.bad.length/\60<(q.bad.getD j br).states.length
instance (q:aG):Decidable (mK q):=inferInstanceAs (Decidable (_\/_))
theorem kg {q:aG} (h:¬mK q):q.name.size<=500/\q.start.length<=60/\q.bad.length<=60/\q.adjacent.length<=60/\q.goal.length<=60:=by
 unfold mK at h
 omega
theorem xa {q:aG} (h:¬mK q):∀j,j<q.bad.length->(q.bad.getD j br).states.length<=60:=fun j hj=>by
 have:¬(60<(q.bad.getD j br).states.length):=fun h2=>h (.inr (.inr (.inr (.inr (.inr ⟨j,hj,h2⟩)))))
 omega
def pN (q:aG):Prop:=(q.name.size<=140737488355328/\q.start.length<=140737488355328/\q.bad.length<=140737488355328/\q.adjacent.length<=140737488355328/\q.goal.length<=140737488355328)/\∀j,j<q.bad.length->(q.bad.getD j br).states.length<=140737488355328
theorem yN {q:aG} (h:¬mK q):pN q:=⟨by have:=kg h;omega,fun j hj=>by have:=xa h j hj;omega⟩
theorem uB {q:aG} (h:pN q):q.name.size<=140737488355328/\q.start.length<=140737488355328/\q.bad.length<=140737488355328/\q.adjacent.length<=140737488355328/\q.goal.length<=140737488355328:=h.1
theorem p6 {q:aG} (h:pN q):∀j,j<q.bad.length->(q.bad.getD j br).states.length<=140737488355328:=h.2
theorem HU (l:List Int) (s:Int) (hl:l.length<=4503599627370496):ab Tryz.prog 175 [.sl 0 ao l, .int .i64 s] (fun u=>∃n:Int,u= .int .i64 n/\(0<=n↔s∈l)):=by
 refine ab.intro ae ag Tryz.func175 rfl (by decide) ?_;(conv=>whnf)
 refine aQ.loopF ae ag (fun k:Nat=>k<=l.length/\s∉l.take k) (fun k=>[(8, .int .i64 (k:Int))]) (fun _=>[]) (fun k=>l.length-k) 0 ⟨by omega,by simp⟩ ?_;conv=>whnf
 refine⟨sI,?_⟩
 rintro k ⟨hk,ha⟩
 conv=>whnf
 repeat' ((first|refine nI ?_|refine aI ?_|refine fb trivial (by omega) ?_|refine fv trivial (by omega) ?_|refine dI ?_|refine dR ?_|refine dP ?_|refine al rfl ?_|refine pI _ rfl ?_|refine aw _ rfl ?_|refine tI ?_|refine fI ?_|refine ah (fun _=>?_) (fun _=>?_))<;>conv=>whnf)
 ·rename_i h1 h2
  rw[tN] at h2
  refine⟨⟨k,rfl,fun _=>?_,fun _=>by omega⟩,rfl⟩
  rw[h2,gD,gL (by omega)]
  exact List.getElem_mem _
 ·rename_i h1 h2
  rw[tN] at h2
  refine⟨k+1,sI,⟨by omega,?_⟩,by dsimp only;omega⟩
  rw[List.take_succ_eq_append_getElem (by omega),List.mem_append,List.mem_singleton,not_or]
  refine⟨ha,?_⟩
  rw[gD,gL (by omega)] at h2
  exact h2
 ·obtain rfl:k=l.length:=by omega
  rw[List.take_length] at ha
  exact⟨⟨-1,rfl,fun h=>by omega,fun h=>absurd h ha⟩,rfl⟩
theorem be (l:List Int) (s:Int) (hl:l.length<=4503599627370496):ab Tryz.prog 82 [.sl 0 ao l, .int .i64 s] (fun u=>u= .bool (decide (s∈l))):=by
 refine ab.intro ae ag Tryz.func82 rfl (by decide) ?_;(conv=>whnf)
 refine am.of_pure (n:=5) (HU l s hl) rfl ?_
 rintro _ ⟨n,rfl,hn⟩
 conv=>whnf
 refine ah ?_ ?_<;>(intro h;conv=>whnf)
 ·exact⟨aH (hn.1 h),rfl⟩
 ·exact⟨au (fun hh=>h (hn.2 hh)),rfl⟩
theorem NQ (l:List Int) (s:Int) (hl:l.length<=4503599627370496):ab Tryz.prog 203 [.sl 0 ao l, .int .i64 s] (fun u=>u= .bool (decide (s∈l))):=by
 refine ab.intro ae ag Tryz.func203 rfl (by decide) ?_;(conv=>whnf)
 refine aQ.loopF ae ag (fun k:Nat=>k<=l.length/\s∉l.take k) (fun k=>[(5, .int .i64 (k:Int))]) (fun _=>[]) (fun k=>l.length-k) 0 ⟨by omega,by simp⟩ ?_;conv=>whnf
 refine⟨sI,?_⟩
 rintro k ⟨hk,ha⟩
 conv=>whnf
 repeat' ((first|refine nI ?_|refine aI ?_|refine fb trivial (by omega) ?_|refine fv trivial (by omega) ?_|refine dI ?_|refine dR ?_|refine dP ?_|refine al rfl ?_|refine pI _ rfl ?_|refine aw _ rfl ?_|refine tI ?_|refine fI ?_|refine ah (fun _=>?_) (fun _=>?_))<;>conv=>whnf)
 ·rename_i h1 h2
  rw[tN] at h2
  refine⟨aH ?_,rfl⟩
  rw[<-h2,gD,gL (by omega)]
  exact List.getElem_mem _
 ·rename_i h1 h2
  rw[tN] at h2
  refine⟨k+1,sI,⟨by omega,?_⟩,by dsimp only;omega⟩
  rw[List.take_succ_eq_append_getElem (by omega),List.mem_append,List.mem_singleton,not_or]
  refine⟨ha,fun e=>h2 ?_⟩
  rw[gD,gL (by omega)]
  exact e.symm
 ·obtain rfl:k=l.length:=by omega
  rw[List.take_length] at ha
  exact⟨au ha,rfl⟩
def yO (n:Int) (c:JK):Int:=ci [bC c.states n,(if c.states.length=0\/c.least<1\/3<c.least then 1 else 0)]
def nt (n:Int) (l:List JK):Int:=ci (l.map (yO n))
def mh (p:an) (l:List Int):Int:=if l.length=0 then 0 else if p.topology=1 then 6 else if l.length≠2 then 1 else ci [cM (l.getD 0 0) p.states.length,cM (l.getD 1 0) p.states.length]
def aP (p:an) (q:aG):Int:=
 if aA p≠0 then aA p else if¬cj q.name then 2 else if q.kind≠1/\q.kind≠2 then 1
 else if(q.kind=1/\0<q.goal.length)\/(q.kind=2/\(0<q.bad.length\/0<q.adjacent.length)) then 1
 else if bC q.start p.states.length≠0 then bC q.start p.states.length
 else if¬(∀j,j<q.start.length->q.start.getD j 0∈p.initial) then 5
 else if q.kind=2 then ci [bC q.goal p.states.length,(if q.goal.length=0 then 1 else 0)]
 else ci [(if q.bad.length=0/\q.adjacent.length=0 then 1 else 0),(if 3<q.bad.length then 4 else 0),nt p.states.length q.bad,mh p q.adjacent]
theorem rl (l:List JK) (n:Int) (hl:l.length<=4503599627370496) (hs:∀j,j<l.length->(l.getD j br).states.length<=140737488355328):ab Tryz.prog 158 [.sl br gR l, .int .i64 n] (fun u=>u= .int .i64 (nt n l)):=by
 refine ab.intro ae ag Tryz.func158 rfl (by decide) ?_;(conv=>whnf)
 refine aQ.loopF ae ag (fun k:Nat=>k<=l.length/\nt n l=ci ((l.drop k).map (yO n))) (fun k=>[(10, .int .i64 (k:Int))]) (fun _=>[]) (fun k=>l.length-k) 0 ⟨by omega,rfl⟩ ?_;conv=>whnf
 refine⟨sI,?_⟩
 rintro k ⟨hk,he⟩
 conv=>whnf
 refine ah ?_ ?_<;>(intro h1;conv=>whnf)
 ·rw[bW _ br (by omega)] at he
  have hlen:=hs k (by omega)
  refine nI ?_
  rw[tN]
  generalize l.getD k br=g at he hlen
  conv=>whnf
  refine dI ?_
  conv=>whnf
  (refine oC (mJ g.states n (by omega)) ?_;conv=>whnf)
  have fin:∀c:Int,c=(if g.states.length=0\/g.least<1\/3<g.least then 1 else 0)->ci [bC g.states n,c]=yO n g:=by rintro c rfl;rfl
  by_cases hc:g.states.length=0\/g.least<1\/3<g.least
  ·have ec:=fin 1 (by rw[if_pos hc])
   repeat' ((first|refine nI ?_|refine aI ?_|refine fb trivial (by omega) ?_|refine fv trivial (by omega) ?_|refine dI ?_|refine dR ?_|refine dP ?_|refine al rfl ?_|refine pI _ rfl ?_|refine aw _ rfl ?_|refine tI ?_|refine fI ?_|refine ah (fun _=>?_) (fun _=>?_))<;>conv=>whnf)
   all_goals
    (refine oC (i8 1) ?_;conv=>whnf)
    refine dA ?_
    conv=>whnf
    (refine oC (cJ _ (by simp)) ?_;conv=>whnf)
    rw[ec]
    refine ah ?_ ?_<;>(intro h2;conv=>whnf)
    ·rw[if_pos h2] at he
     exact⟨ac he.symm,rfl⟩
    ·rw[if_neg h2] at he
     repeat' ((first|refine nI ?_|refine aI ?_|refine fb trivial (by omega) ?_|refine fv trivial (by omega) ?_|refine dI ?_|refine dR ?_|refine dP ?_|refine al rfl ?_|refine pI _ rfl ?_|refine aw _ rfl ?_|refine tI ?_|refine fI ?_|refine ah (fun _=>?_) (fun _=>?_))<;>conv=>whnf)
     exact⟨k+1,sI,⟨by omega,he⟩,by dsimp only;omega⟩
  ·have ec:=fin 0 (by rw[if_neg hc])
   repeat' ((first|refine nI ?_|refine aI ?_|refine tI ?_|refine fI ?_|fail);conv=>whnf)
   (refine oC (gX 1) ?_;conv=>whnf)
   refine dA ?_
   conv=>whnf
   (refine oC (cJ _ (by simp)) ?_;conv=>whnf)
   rw[ec]
   refine ah ?_ ?_<;>(intro h2;conv=>whnf)
   ·rw[if_pos h2] at he
    exact⟨ac he.symm,rfl⟩
   ·rw[if_neg h2] at he
    repeat' ((first|refine nI ?_|refine aI ?_|refine fb trivial (by omega) ?_|refine fv trivial (by omega) ?_|refine dI ?_|refine dR ?_|refine dP ?_|refine al rfl ?_|refine pI _ rfl ?_|refine aw _ rfl ?_|refine tI ?_|refine fI ?_|refine ah (fun _=>?_) (fun _=>?_))<;>conv=>whnf)
    exact⟨k+1,sI,⟨by omega,he⟩,by dsimp only;omega⟩
 ·rw[List.drop_of_length_le (by omega)] at he
  exact⟨ac he.symm,rfl⟩
theorem Ew (p:an) (l:List Int):ab Tryz.prog 159 [.agg (aR p), .sl 0 ao l] (fun u=>u= .int .i64 (mh p l)):=by
 have he:=mh.eq_1 p l
 refine ab.intro ae ag Tryz.func159 rfl (by decide) ?_;(conv=>whnf)
 refine al rfl ?_
 conv=>whnf
 refine ah ?_ ?_<;>(intro h1;conv=>whnf)
 ·rw[if_pos (by omega)] at he;exact⟨ac he.symm,rfl⟩
 rw[if_neg (by omega)] at he
 refine ah ?_ ?_<;>(intro h2;conv=>whnf)
 ·rw[if_pos h2] at he;exact⟨ac he.symm,rfl⟩
 rw[if_neg h2] at he
 refine ah ?_ ?_<;>(intro h3;conv=>whnf)
 ·rw[if_pos (by omega)] at he;exact⟨ac he.symm,rfl⟩
 rw[if_neg (by omega)] at he
 refine dI ?_
 conv=>whnf
 refine nI ?_
 conv=>whnf
 (refine oC (gP _ _) ?_;conv=>whnf)
 refine nI ?_
 conv=>whnf
 (refine oC (gP _ _) ?_;conv=>whnf)
 refine dA ?_
 conv=>whnf
 (refine oC (cJ _ (by simp)) ?_;conv=>whnf)
 exact⟨ac he.symm,rfl⟩
theorem jA (p:an) (q:aG) (hp:iO p) (hq:pN q):ab Tryz.prog 70 [.agg (aR p), .agg (df q)] (fun u=>u= .int .i64 (aP p q)):=by
 have hle:=jh hp
 have hlq:=uB hq
 have he:=aP.eq_1 p q
 refine ab.intro ae ag Tryz.func70 rfl (by decide) ?_;(conv=>whnf)
 refine al rfl ?_
 conv=>whnf
 refine al rfl ?_
 conv=>whnf
 (refine oP (c9 p hp) ?_;conv=>whnf)
 refine ah ?_ ?_<;>(intro h1;conv=>whnf)
 ·rw[if_pos h1] at he;exact⟨ac he.symm,rfl⟩
 rw[if_neg h1] at he
 refine ah ?_ ?_<;>(intro hk;conv=>whnf)
 all_goals
  refine dC (fe q.name (by omega)) (fun _=>?_) (fun _=>?_)<;>(conv=>whnf)
  case refine_2=>rename_i hv;rw[if_pos hv] at he;exact⟨ac he.symm,rfl⟩
  rename_i hv
  rw[if_neg (fun h=>h hv)] at he
  by_cases hA:q.kind≠1/\q.kind≠2
  ·rw[if_pos hA] at he
   repeat' ((first|refine nI ?_|refine aI ?_|refine fb trivial (by omega) ?_|refine fv trivial (by omega) ?_|refine dI ?_|refine dR ?_|refine dP ?_|refine al rfl ?_|refine pI _ rfl ?_|refine aw _ rfl ?_|refine tI ?_|refine fI ?_|refine ah (fun _=>?_) (fun _=>?_))<;>conv=>whnf)
   all_goals exact⟨ac he.symm,rfl⟩
  rw[if_neg hA] at he
  by_cases hB:(q.kind=1/\0<q.goal.length)\/(q.kind=2/\(0<q.bad.length\/0<q.adjacent.length))
  ·rw[if_pos hB] at he
   repeat' ((first|refine nI ?_|refine aI ?_|refine fb trivial (by omega) ?_|refine fv trivial (by omega) ?_|refine dI ?_|refine dR ?_|refine dP ?_|refine al rfl ?_|refine pI _ rfl ?_|refine aw _ rfl ?_|refine tI ?_|refine fI ?_|refine ah (fun _=>?_) (fun _=>?_))<;>conv=>whnf)
   all_goals exact⟨ac he.symm,rfl⟩
  rw[if_neg hB] at he
  repeat' ((first|refine nI ?_|refine aI ?_|refine tI ?_|refine fI ?_|fail);conv=>whnf)
  (refine oP (mJ q.start _ (by omega)) ?_;conv=>whnf)
  refine ah ?_ ?_<;>(intro h2;conv=>whnf)
  ·rw[if_pos h2] at he;exact⟨ac he.symm,rfl⟩
  rw[if_neg h2] at he
  refine aQ.loopF ae ag (fun k:Nat=>k<=q.start.length/\∀j,j<k->q.start.getD j 0∈p.initial) (fun k=>[(67, .int .i64 (k:Int))]) (fun _=>[]) (fun k=>q.start.length-k) 0 ⟨by omega,fun j hj=>by omega⟩ ?_;conv=>whnf
  refine⟨sI,?_⟩
  rintro k ⟨hk',ha⟩
  conv=>whnf
  refine ah ?_ ?_<;>(intro h3;conv=>whnf)
  ·refine nI ?_
   rw[tN]
   conv=>whnf
   refine dC (be p.initial _ (by omega)) (fun _=>?_) (fun _=>?_)<;>(conv=>whnf)
   ·rename_i hm
    repeat' ((first|refine nI ?_|refine aI ?_|refine tI ?_|refine fI ?_|fail);conv=>whnf)
    refine⟨k+1,sI,⟨by omega,fun j hj=>?_⟩,by dsimp only;omega⟩
    by_cases e:j=k
    ·subst e;exact hm
    ·exact ha j (by omega)
   ·rename_i hm
    rw[if_pos (fun h=>hm (h k (by omega)))] at he
    exact⟨ac he.symm,rfl⟩
  rw[if_neg (fun h=>h (fun j hj=>ha j (by omega)))] at he
  refine dI ?_
  conv=>whnf
 ·rw[if_neg (by omega)] at he
  have fin:∀a b:Int,a=(if q.bad.length=0/\q.adjacent.length=0 then 1 else 0)->b=(if 3<q.bad.length then 4 else 0)->aP p q=ci [a,b,nt p.states.length q.bad,mh p q.adjacent]:=by rintro a b rfl rfl;exact he
  by_cases hC:q.bad.length=0/\q.adjacent.length=0
  ·have f1:=fin 1 0 (by rw[if_pos hC]) (by rw[if_neg (by omega)])
   repeat' ((first|refine nI ?_|refine aI ?_|refine tI ?_|refine fI ?_|fail);conv=>whnf)
   (refine oC (i8 1) ?_;conv=>whnf)
   repeat' ((first|refine nI ?_|refine aI ?_|refine tI ?_|refine fI ?_|fail);conv=>whnf)
   (refine oC (gX 4) ?_;conv=>whnf)
   (refine oC (rl q.bad _ (by omega) (p6 hq)) ?_;conv=>whnf)
   (refine oC (Ew p q.adjacent) ?_;conv=>whnf)
   refine dA ?_
   conv=>whnf
   (refine oC (cJ _ (by simp)) ?_;conv=>whnf)
   exact⟨ac f1.symm,rfl⟩
  ·by_cases hD:3<q.bad.length
   ·have f1:=fin 0 4 (by rw[if_neg hC]) (by rw[if_pos hD])
    repeat' ((first|refine nI ?_|refine aI ?_|refine fb trivial (by omega) ?_|refine fv trivial (by omega) ?_|refine dI ?_|refine dR ?_|refine dP ?_|refine al rfl ?_|refine pI _ rfl ?_|refine aw _ rfl ?_|refine tI ?_|refine fI ?_|refine ah (fun _=>?_) (fun _=>?_))<;>conv=>whnf)
    all_goals
     (refine oC (gX 1) ?_;conv=>whnf)
     repeat' ((first|refine nI ?_|refine aI ?_|refine tI ?_|refine fI ?_|fail);conv=>whnf)
     (refine oC (i8 4) ?_;conv=>whnf)
     (refine oC (rl q.bad _ (by omega) (p6 hq)) ?_;conv=>whnf)
     (refine oC (Ew p q.adjacent) ?_;conv=>whnf)
     refine dA ?_
     conv=>whnf
     (refine oC (cJ _ (by simp)) ?_;conv=>whnf)
     exact⟨ac f1.symm,rfl⟩
   ·have f1:=fin 0 0 (by rw[if_neg hC]) (by rw[if_neg hD])
    repeat' ((first|refine nI ?_|refine aI ?_|refine fb trivial (by omega) ?_|refine fv trivial (by omega) ?_|refine dI ?_|refine dR ?_|refine dP ?_|refine al rfl ?_|refine pI _ rfl ?_|refine aw _ rfl ?_|refine tI ?_|refine fI ?_|refine ah (fun _=>?_) (fun _=>?_))<;>conv=>whnf)
    all_goals
     (refine oC (gX 1) ?_;conv=>whnf)
     repeat' ((first|refine nI ?_|refine aI ?_|refine tI ?_|refine fI ?_|fail);conv=>whnf)
     (refine oC (gX 4) ?_;conv=>whnf)
     (refine oC (rl q.bad _ (by omega) (p6 hq)) ?_;conv=>whnf)
     (refine oC (Ew p q.adjacent) ?_;conv=>whnf)
     refine dA ?_
     conv=>whnf
     (refine oC (cJ _ (by simp)) ?_;conv=>whnf)
     exact⟨ac f1.symm,rfl⟩
 ·rw[if_pos (by omega)] at he
  (refine oC (mJ q.goal _ (by omega)) ?_;conv=>whnf)
  by_cases hC:q.goal.length=0
  ·rw[if_pos hC] at he
   repeat' ((first|refine nI ?_|refine aI ?_|refine tI ?_|refine fI ?_|fail);conv=>whnf)
   (refine oC (i8 1) ?_;conv=>whnf)
   refine dA ?_
   conv=>whnf
   (refine oC (cJ _ (by simp)) ?_;conv=>whnf)
   exact⟨ac he.symm,rfl⟩
  ·rw[if_neg hC] at he
   repeat' ((first|refine nI ?_|refine aI ?_|refine tI ?_|refine fI ?_|fail);conv=>whnf)
   (refine oC (gX 1) ?_;conv=>whnf)
   refine dA ?_
   conv=>whnf
   (refine oC (cJ _ (by simp)) ?_;conv=>whnf)
   exact⟨ac he.symm,rfl⟩
theorem tk (p:an) (q:aG) (hp:iO p) (hq:pN q):ab Tryz.prog 111 [.agg (aR p), .agg (df q)] (fun u=>u= .int .i64 (aP p q)):=by
 have hle:=jh hp
 have hlq:=uB hq
 have he:=aP.eq_1 p q
 refine ab.intro ae ag Tryz.func111 rfl (by decide) ?_;(conv=>whnf)
 refine al rfl ?_
 conv=>whnf
 refine al rfl ?_
 conv=>whnf
 (refine oP (oT p hp) ?_;conv=>whnf)
 refine ah ?_ ?_<;>(intro h1;conv=>whnf)
 ·rw[if_pos h1] at he;exact⟨ac he.symm,rfl⟩
 rw[if_neg h1] at he
 refine dC (kc q.name (by omega)) (fun _=>?_) (fun _=>?_)<;>(conv=>whnf)
 case refine_2=>rename_i hv;rw[if_pos hv] at he;exact⟨ac he.symm,rfl⟩
 rename_i hv
 rw[if_neg (fun h=>h hv)] at he
 by_cases hA:q.kind≠1/\q.kind≠2
 ·rw[if_pos hA] at he
  repeat' ((first|refine nI ?_|refine aI ?_|refine fb trivial (by omega) ?_|refine fv trivial (by omega) ?_|refine dI ?_|refine dR ?_|refine dP ?_|refine al rfl ?_|refine pI _ rfl ?_|refine aw _ rfl ?_|refine tI ?_|refine fI ?_|refine ah (fun _=>?_) (fun _=>?_))<;>conv=>whnf)
  all_goals exact⟨ac he.symm,rfl⟩
 rw[if_neg hA] at he
 by_cases hB:(q.kind=1/\0<q.goal.length)\/(q.kind=2/\(0<q.bad.length\/0<q.adjacent.length))
 ·rw[if_pos hB] at he
  repeat' ((first|refine nI ?_|refine aI ?_|refine fb trivial (by omega) ?_|refine fv trivial (by omega) ?_|refine dI ?_|refine dR ?_|refine dP ?_|refine al rfl ?_|refine pI _ rfl ?_|refine aw _ rfl ?_|refine tI ?_|refine fI ?_|refine ah (fun _=>?_) (fun _=>?_))<;>conv=>whnf)
  all_goals exact⟨ac he.symm,rfl⟩
 rw[if_neg hB] at he
 have hk12:q.kind=1\/q.kind=2:=by omega
 rcases hk12 with hk|hk
 all_goals
  repeat' ((first|refine nI ?_|refine aI ?_|refine tI ?_|refine fI ?_|fail);conv=>whnf)
  (refine oP (bl q.start _ (by omega) (by omega)) ?_;conv=>whnf)
  refine ah ?_ ?_<;>(intro h2;conv=>whnf)
  ·rw[if_pos h2] at he;exact⟨ac he.symm,rfl⟩
  rw[if_neg h2] at he
  refine aQ.loopF ae ag (fun k:Nat=>k<=q.start.length/\∀j,j<k->q.start.getD j 0∈p.initial) (fun k=>[(8, .int .i64 (k:Int))]) (fun _=>[]) (fun k=>q.start.length-k) 0 ⟨by omega,fun j hj=>by omega⟩ ?_;conv=>whnf
  refine⟨sI,?_⟩
  rintro k ⟨hk',ha⟩
  conv=>whnf
  refine ah ?_ ?_<;>(intro h3;conv=>whnf)
  ·refine dI ?_
   conv=>whnf
   refine nI ?_
   rw[tN]
   conv=>whnf
   refine dD (NQ p.initial _ (by omega)) (fun _=>?_) (fun _=>?_)<;>(conv=>whnf)
   ·rename_i hm
    repeat' ((first|refine nI ?_|refine aI ?_|refine tI ?_|refine fI ?_|fail);conv=>whnf)
    refine⟨k+1,sI,⟨by omega,fun j hj=>?_⟩,by dsimp only;omega⟩
    by_cases e:j=k
    ·subst e;exact hm
    ·exact ha j (by omega)
   ·rename_i hm
    rw[if_pos (fun h=>hm (h k (by omega)))] at he
    exact⟨ac he.symm,rfl⟩
  rw[if_neg (fun h=>h (fun j hj=>ha j (by omega)))] at he
  repeat' ((first|refine nI ?_|refine aI ?_|refine tI ?_|refine fI ?_|fail);conv=>whnf)
 ·rw[if_neg (by omega)] at he
  by_cases hC:q.bad.length=0/\q.adjacent.length=0
  ·rw[if_pos hC] at he
   repeat' ((first|refine nI ?_|refine aI ?_|refine tI ?_|refine fI ?_|fail);conv=>whnf)
   exact⟨ac he.symm,rfl⟩
  rw[if_neg hC] at he
  have he:aP p q=ci [(if 3<q.bad.length then 4 else 0),nt p.states.length q.bad,mh p q.adjacent]:=he
  by_cases hD:3<q.bad.length
  ·rw[if_pos hD] at he
   repeat' ((first|refine nI ?_|refine aI ?_|refine fb trivial (by omega) ?_|refine fv trivial (by omega) ?_|refine dI ?_|refine dR ?_|refine dP ?_|refine al rfl ?_|refine pI _ rfl ?_|refine aw _ rfl ?_|refine tI ?_|refine fI ?_|refine ah (fun _=>?_) (fun _=>?_))<;>conv=>whnf)
   all_goals exact⟨ac he.symm,rfl⟩
  rw[if_neg hD] at he
  have he:aP p q=ci [nt p.states.length q.bad,mh p q.adjacent]:=he
  repeat' ((first|refine nI ?_|refine aI ?_|refine fb trivial (by omega) ?_|refine fv trivial (by omega) ?_|refine dI ?_|refine dR ?_|refine dP ?_|refine al rfl ?_|refine pI _ rfl ?_|refine aw _ rfl ?_|refine tI ?_|refine fI ?_|refine ah (fun _=>?_) (fun _=>?_))<;>conv=>whnf)
  all_goals
   refine aQ.loopF ae ag (fun k:Nat=>k<=q.bad.length/\nt p.states.length q.bad=ci ((q.bad.drop k).map (yO p.states.length))) (fun k=>[(10, .int .i64 (k:Int))]) (fun _=>[]) (fun k=>q.bad.length-k) 0 ⟨by omega,rfl⟩ ?_;conv=>whnf
   refine⟨sI,?_⟩
   rintro k ⟨hk',hr⟩
   conv=>whnf
   refine ah ?_ ?_<;>(intro h3;conv=>whnf)
   ·first
    |(exfalso;omega)
    |rw[bW _ br (by omega)] at hr
     have hlen:=p6 hq k (by omega)
     refine nI ?_
     rw[tN]
     conv=>whnf
     (refine oP (bl (q.bad.getD k br).states _ (by omega) (by omega)) ?_;conv=>whnf)
     have hg:=yO.eq_1 p.states.length (q.bad.getD k br)
     refine ah ?_ ?_<;>(intro h4;conv=>whnf)
     ·rw[ar h4] at hg
      rw[hg,if_pos h4] at hr
      rw[hr,ar h4] at he
      exact⟨ac he.symm,rfl⟩
     refine nI ?_
     rw[tN]
     conv=>whnf
     rw[aq (by omega)] at hg
     by_cases hc:(q.bad.getD k br).states.length=0\/(q.bad.getD k br).least<1\/3<(q.bad.getD k br).least
     ·rw[if_pos hc] at hg
      rw[hg] at hr
      rw[hr] at he
      by_cases hz:(q.bad.getD k br).states.length=0
      ·repeat' ((first|refine nI ?_|refine aI ?_|refine tI ?_|refine fI ?_|fail);conv=>whnf)
       exact⟨ac he.symm,rfl⟩
      ·repeat' ((first|refine nI ?_|refine aI ?_|refine tI ?_|refine fI ?_|fail);conv=>whnf)
       refine dC (ay _ _ _) (fun _=>?_) (fun _=>?_)<;>(conv=>whnf)
       ·rename_i h;rw[tN] at h;omega
       ·exact⟨ac he.symm,rfl⟩
     ·rw[if_neg hc] at hg
      rw[hg] at hr
      repeat' ((first|refine nI ?_|refine aI ?_|refine tI ?_|refine fI ?_|fail);conv=>whnf)
      refine dC (ay _ _ _) (fun _=>?_) (fun _=>?_)<;>(conv=>whnf)
      ·repeat' ((first|refine nI ?_|refine aI ?_|refine tI ?_|refine fI ?_|fail);conv=>whnf)
       exact⟨k+1,sI,⟨by omega,hr⟩,by dsimp only;omega⟩
      ·rename_i h;rw[tN] at h;omega
   rw[List.drop_of_length_le (by omega)] at hr
   rw[aq hr] at he
   have he:aP p q=(if mh p q.adjacent≠0 then mh p q.adjacent else 0):=he
   have ha':=mh.eq_1 p q.adjacent
   by_cases h0:q.adjacent.length=0
   ·rw[if_pos h0] at ha'
    rw[ha'] at he
    first
    |(exfalso;omega)
    |skip
     repeat' ((first|refine nI ?_|refine aI ?_|refine tI ?_|refine fI ?_|fail);conv=>whnf)
     refine aQ.loopF ae ag (fun i:Nat=>i=0) (fun i=>[(12, .int .i64 (i:Int))]) (fun _=>[]) (fun _=>0) 0 rfl ?_;conv=>whnf
     refine⟨sI,?_⟩
     rintro i rfl
     conv=>whnf
     repeat' ((first|refine nI ?_|refine aI ?_|refine tI ?_|refine fI ?_|fail);conv=>whnf)
     exact⟨ac he.symm,rfl⟩
   rw[if_neg h0] at ha'
   by_cases ht:p.topology=1
   ·rw[if_pos ht] at ha'
    rw[ha'] at he
    repeat' ((first|refine nI ?_|refine aI ?_|refine tI ?_|refine fI ?_|fail);conv=>whnf)
    exact⟨ac he.symm,rfl⟩
   rw[if_neg ht] at ha'
   by_cases h2':q.adjacent.length≠2
   ·rw[if_pos h2'] at ha'
    rw[ha'] at he
    repeat' ((first|refine nI ?_|refine aI ?_|refine tI ?_|refine fI ?_|fail);conv=>whnf)
    exact⟨ac he.symm,rfl⟩
   rw[if_neg h2'] at ha'
   repeat' ((first|refine nI ?_|refine aI ?_|refine tI ?_|refine fI ?_|fail);conv=>whnf)
   refine aQ.loopF ae ag (fun i:Nat=>i<=2/\∀j,j<i->0<=q.adjacent.getD j 0/\q.adjacent.getD j 0<p.states.length) (fun i=>[(12, .int .i64 (i:Int))]) (fun _=>[]) (fun i=>2-i) 0 ⟨by omega,fun j hj=>by omega⟩ ?_;conv=>whnf
   refine⟨sI,?_⟩
   rintro i ⟨hi,hin⟩
   conv=>whnf
   refine ah ?_ ?_<;>(intro h5;conv=>whnf)
   ·refine nI ?_
    rw[tN]
    conv=>whnf
    repeat' ((first|refine nI ?_|refine aI ?_|refine tI ?_|refine fI ?_|fail);conv=>whnf)
    refine dC (ay _ _ _) (fun _=>?_) (fun _=>?_)<;>(conv=>whnf)
    ·rename_i h6
     repeat' ((first|refine nI ?_|refine aI ?_|refine tI ?_|refine fI ?_|fail);conv=>whnf)
     refine⟨i+1,sI,⟨by omega,fun j hj=>?_⟩,by dsimp only;omega⟩
     by_cases e:j=i
     ·subst e;omega
     ·exact hin j (by omega)
    ·rename_i h6
     have h7:mh p q.adjacent=5:=by
      rw[ha']
      have hi2:i=0\/i=1:=by omega
      rcases hi2 with rfl|rfl
      ·rw[ar (by rw[cM,if_pos (by omega)];decide),cM,if_pos (by omega)]
      ·have:=hin 0 (by omega)
       rw[aq (by rw[cM,if_neg (by omega)]),ar (by rw[cM,if_pos (by omega)];decide),cM,if_pos (by omega)]
     rw[h7] at he
     exact⟨ac he.symm,rfl⟩
   ·have h7:mh p q.adjacent=0:=by
     rw[ha']
     have a0:=hin 0 (by omega)
     have a1:=hin 1 (by omega)
     rw[aq (by rw[cM,if_neg (by omega)]),aq (by rw[cM,if_neg (by omega)])];rfl
    rw[h7] at he
    exact⟨ac he.symm,rfl⟩
 ·rw[if_pos (by omega)] at he
  (refine oP (bl q.goal _ (by omega) (by omega)) ?_;conv=>whnf)
  refine ah ?_ ?_<;>(intro h4;conv=>whnf)
  ·rw[ar h4] at he;exact⟨ac he.symm,rfl⟩
  rw[aq (by omega)] at he
  by_cases h5:q.goal.length=0
  ·rw[if_pos h5] at he
   repeat' ((first|refine nI ?_|refine aI ?_|refine tI ?_|refine fI ?_|fail);conv=>whnf)
   exact⟨ac he.symm,rfl⟩
  ·rw[if_neg h5] at he
   repeat' ((first|refine nI ?_|refine aI ?_|refine tI ?_|refine fI ?_|fail);conv=>whnf)
   exact⟨ac he.symm,rfl⟩
theorem bE {c:az} (hw:bA c=false):c.shape.length<=100/\c.states.length<=100/\c.sent.length<=100/\c.faulty.length<=100:=by
 unfold bA at hw
 simp at hw
 omega
def Ex (p:an) (c:az):Prop:=lV c.states p.states.length/\0<=c.correct/\c.correct<=c.states.length
noncomputable instance decPl (p:an) (c:az):Decidable (Ex p c):=Classical.propDecidable _
def OM (p:an) (c:az):Prop:=p.topology=4->c.shape.length=c.states.length/\shp c.shape
noncomputable instance decTr (p:an) (c:az):Decidable (OM p c):=Classical.propDecidable _
theorem Ey {l:List Int} {n:Int} {k:Nat} (h:∀j,j<k->0<=l.getD j 0/\l.getD j 0<n) (hk:l.length<=k):lV l n:=fun j hj=>h j (by omega)
theorem Ez (p:an) (c:az) (hp:¬dX p) (hw:bA c=false):ab Tryz.prog 71 [.agg (aR p), .agg (aW c), .bool false] (fun u=>u= .int .i64 (if Ex p c then 0 else 1)):=by
 have hle:=bL hp
 have hc:=bE hw
 refine ab.intro ae ag Tryz.func71 rfl (by decide) ?_;(conv=>whnf)
 refine al rfl ?_
 conv=>whnf
 refine al rfl ?_
 conv=>whnf
 refine aQ.loopF ae ag (fun k:Nat=>k<=c.states.length/\∀j,j<k->0<=c.states.getD j 0/\c.states.getD j 0<p.states.length) (fun k=>[(12, .int .i64 (k:Int))]) (fun _=>[]) (fun k=>c.states.length-k) 0 ⟨by omega,fun j hj=>by omega⟩ ?_;conv=>whnf
 refine⟨sI,?_⟩
 rintro k ⟨hk,ha⟩
 conv=>whnf
 refine ah ?_ ?_<;>(intro h1;conv=>whnf)
 ·refine nI ?_
  rw[tN]
  conv=>whnf
  by_cases h2:0<=c.states.getD k 0/\c.states.getD k 0<p.states.length
  ·repeat' ((first|refine nI ?_|refine aI ?_|refine tI ?_|refine fI ?_|fail);conv=>whnf)
   refine⟨k+1,sI,⟨by omega,fun j hj=>?_⟩,by dsimp only;omega⟩
   by_cases e:j=k
   ·subst e;exact h2
   ·exact ha j (by omega)
  ·repeat' ((first|refine nI ?_|refine aI ?_|refine fb trivial (by omega) ?_|refine fv trivial (by omega) ?_|refine dI ?_|refine dR ?_|refine dP ?_|refine al rfl ?_|refine pI _ rfl ?_|refine aw _ rfl ?_|refine tI ?_|refine fI ?_|refine ah (fun _=>?_) (fun _=>?_))<;>conv=>whnf)
   all_goals exact⟨ac (by rw[if_neg (fun h=>h2 (h.1 k (by omega)))]),rfl⟩
 have hin:=Ey ha (by omega)
 by_cases h3:0<=c.correct/\c.correct<=c.states.length
 ·repeat' ((first|refine nI ?_|refine aI ?_|refine tI ?_|refine fI ?_|fail);conv=>whnf)
  exact⟨ac (by rw[if_pos ⟨hin,h3⟩]),rfl⟩
 ·repeat' ((first|refine nI ?_|refine aI ?_|refine fb trivial (by omega) ?_|refine fv trivial (by omega) ?_|refine dI ?_|refine dR ?_|refine dP ?_|refine al rfl ?_|refine pI _ rfl ?_|refine aw _ rfl ?_|refine tI ?_|refine fI ?_|refine ah (fun _=>?_) (fun _=>?_))<;>conv=>whnf)
  all_goals exact⟨ac (by rw[if_neg (fun h=>h3 h.2)]),rfl⟩
def kJ (q:aG) (c:az):Prop:=∀j:Nat,(j:Int)<c.correct->c.states.getD j 0∈q.goal
noncomputable instance decRch (q:aG) (c:az):Decidable (kJ q c):=Classical.propDecidable _
theorem oW {l:List Int} {k n:Nat} (h:k<n):(l.take n).getD k 0=l.getD k 0:=by
 rw[gD,gD,List.getElem?_take,if_pos h]
theorem EA (q:aG) (c:az) (hq:¬mK q) (hw:bA c=false) (hc0:0<=c.correct/\c.correct<=c.states.length):ab Tryz.prog 72 [.agg (df q), .agg (aW c)] (fun u=>u= .bool (decide (kJ q c))):=by
 have hlq:=kg hq
 have hc:=bE hw
 have hlen:(c.states.take c.correct.toNat).length=c.correct.toNat:=by rw[List.length_take];omega
 refine ab.intro ae ag Tryz.func72 rfl (by decide) ?_;(conv=>whnf)
 refine al rfl ?_
 conv=>whnf
 refine al rfl ?_
 conv=>whnf
 refine nI ?_
 conv=>whnf
 refine aQ.loopF ae ag (fun k:Nat=>k<=c.correct.toNat/\∀j,j<k->c.states.getD j 0∈q.goal) (fun k=>[(13, .int .i64 (k:Int))]) (fun _=>[]) (fun k=>c.correct.toNat-k) 0 ⟨by omega,fun j hj=>by omega⟩ ?_;conv=>whnf
 refine⟨sI,?_⟩
 rintro k ⟨hk,ha⟩
 conv=>whnf
 refine ah ?_ ?_<;>(intro h1;conv=>whnf)
 ·refine nI ?_
  rw[tN]
  conv=>whnf
  refine dC (be q.goal _ (by omega)) (fun _=>?_) (fun _=>?_)<;>(conv=>whnf)
  ·rename_i h2
   rw[oW (by omega)] at h2
   repeat' ((first|refine nI ?_|refine aI ?_|refine tI ?_|refine fI ?_|fail);conv=>whnf)
   refine⟨k+1,sI,⟨by omega,fun j hj=>?_⟩,by dsimp only;omega⟩
   by_cases e:j=k
   ·subst e;exact h2
   ·exact ha j (by omega)
  ·rename_i h2
   rw[oW (by omega)] at h2
   exact⟨au (fun h=>h2 (h k (by omega))),rfl⟩
 ·exact⟨aH (fun j hj=>ha j (by omega)),rfl⟩
def EB (n:Nat) (L:List Int):List Int:=(List.range n).map fun s:Nat=>(L.count (s:Int):Int)
theorem yP {l:List Int} {k:Nat} (h:k<l.length) (x:Int):(l.take (k+1)).count x=(l.take k).count x+if l.getD k 0=x then 1 else 0:=by
 rw[List.take_succ_eq_append_getElem h,List.count_append]
 have e:l.getD k 0=l[k]:=by rw[gD,gL h];rfl
 rw[e,List.count_singleton]
 simp only[beq_iff_eq]
theorem EC (n:Nat) (L:List Int):(EB n L).length=n:=by simp[EB]
theorem HV {n s:Nat} (L:List Int) (h:s<n):(EB n L).getD s 0=(L.count (s:Int):Int):=aM n s (fun s:Nat=>(L.count (s:Int):Int)) h
theorem HW (p:an) (c:az) (hp:¬dX p) (hw:bA c=false) (hpl:Ex p c):ab Tryz.prog 176 [.agg (aR p), .agg (aW c)] (fun u=>u= .sl 0 ao (EB p.states.length (c.states.take c.correct.toNat))):=by
 have hle:=bL hp
 have hc:=bE hw
 obtain⟨hin,hc0,hc1⟩:=hpl
 have hlen:(c.states.take c.correct.toNat).length=c.correct.toNat:=by rw[List.length_take];omega
 refine ab.intro ae ag Tryz.func176 rfl (by decide) ?_;(conv=>whnf)
 refine al rfl ?_
 conv=>whnf
 refine al rfl ?_
 conv=>whnf
 refine Dw 0 ao 0 rfl (by dsimp only;omega) ?_
 rw[tN]
 conv=>whnf
 refine nI ?_
 conv=>whnf
 refine aQ.loopF ae ag (fun x:Nat×List Int=>x.1<=c.correct.toNat/\x.2.length=p.states.length/\∀s:Nat,s<p.states.length->x.2.getD s 0=((c.states.take x.1).count (s:Int):Int)) (fun x=>[(18, .int .i64 (x.1:Int))]) (fun x=>[(11,b7 x.2)]) (fun x=>c.correct.toNat-x.1) (0,List.replicate p.states.length 0) ⟨by dsimp only;omega,by simp,fun s hs=>by dsimp only;rw[ir _ _ _ hs];simp⟩ ?_;conv=>whnf
 refine⟨sI,?_⟩
 rintro x ⟨h1,h2,h3⟩
 conv=>whnf
 refine ah ?_ ?_<;>(intro h4;conv=>whnf)
 ·have h5:=hin x.1 (by omega)
  refine nI ?_
  rw[tN,oW (by omega)]
  conv=>whnf
  have h6:(c.states.getD x.1 0).toNat<p.states.length:=by omega
  have h7:=h3 _ h6
  have h8:(c.states.take x.1).count ((c.states.getD x.1 0).toNat:Int)<=(c.states.take x.1).length:=List.count_le_length
  have h9:(c.states.take x.1).length<=100:=by rw[List.length_take];omega
  repeat' ((first|refine nI ?_|refine aI ?_|refine fb trivial (by omega) ?_|refine fv trivial (by omega) ?_|refine dI ?_|refine dR ?_|refine dP ?_|refine al rfl ?_|refine pI _ rfl ?_|refine aw _ rfl ?_|refine tI ?_|refine fI ?_|refine ah (fun _=>?_) (fun _=>?_))<;>conv=>whnf)
  refine⟨(x.1+1,x.2.set (c.states.getD x.1 0).toNat (x.2.getD (c.states.getD x.1 0).toNat 0+1)),sI,⟨by dsimp only;omega,by simpa using h2,fun s hs=>?_⟩,by dsimp only;omega⟩
  dsimp only
  rw[cL,yP (by omega),h3 s hs,h7]
  by_cases e:(c.states.getD x.1 0).toNat=s
  ·rw[if_pos ⟨e,by omega⟩,if_pos (by omega),e];omega
  ·rw[if_neg (fun h=>e h.1),if_neg (by omega)];omega
 ·have h5:x.1=c.correct.toNat:=by omega
  have h6:x.2=EB p.states.length (c.states.take c.correct.toNat):=by
   rw[h5] at h3
   exact lU h2 h3
  refine⟨?_,rfl⟩
  rw[<-h6]
  rfl
def ki (S L:List Int):Nat:=L.countP (fun x=>decide (x∈S))
theorem xb {S:List Int} {x:Int} (h:x∉S):∀L:List Int,ki (S++[x]) L=ki S L+L.count x
 |[]=>rfl
 |y::L=>by
  have ih:=xb h L
  simp only[ki] at ih⊢
  rw[List.countP_cons,List.countP_cons,List.count_cons,ih]
  by_cases h1:y=x
  ·subst h1
   simp[h]
   omega
  ·by_cases h2:y∈S
   ·simp[h1,h2];omega
   ·simp[h1,h2]
theorem KA (S L:List Int):ki S L<=L.length:=List.countP_le_length
theorem Aj {l:List Int} (h:pM l):∀(k i:Nat),i<k->k<l.length->l.getD i 0<l.getD k 0
 |0,i,hi,_=>by omega
 |k+1,i,hi,hk=>by
  have h1:=h (k+1) hk (by omega)
  rw[Nat.add_sub_cancel] at h1
  by_cases e:i=k
  ·subst e;exact h1
  ·have:=Aj h k i (by omega) (by omega)
   omega
theorem yQ {l:List Int} (h:pM l) {k:Nat} (hk:k<l.length):l.getD k 0∉l.take k:=by
 intro hm
 obtain⟨i,hi,e⟩:=List.getElem_of_mem hm
 rw[List.length_take] at hi
 have h1:=Aj h k i (by omega) hk
 rw[List.getElem_take] at e
 rw[gD,gL (by omega),Option.getD_some,e] at h1
 omega
theorem Ak {l:List Int} {n:Int} (h:bC l n=0):lV l n/\pM l:=by
 unfold bC at h
 by_cases h1:lV l n
 ·rw[if_pos h1] at h
  by_cases h2:pM l
  ·exact⟨h1,h2⟩
  ·rw[if_neg h2] at h;omega
 ·rw[if_neg h1] at h;omega
theorem bB:∀{l:List Int},ci l=0->∀x∈l,x=0
 |[],_,x,hx=>by cases hx
 |a::l,h,x,hx=>by
  by_cases ha:a=0
  ·rw[aq ha] at h
   rcases List.mem_cons.1 hx with rfl|hx
   ·exact ha
   ·exact bB h x hx
  ·rw[ar ha] at h;omega
theorem HX {p:an} {q:aG} (h:aP p q=0) (hk:q.kind=1):(∀j,j<q.bad.length->lV (q.bad.getD j br).states p.states.length/\pM (q.bad.getD j br).states)/\(q.adjacent.length=0\/q.adjacent.length=2):=by
 unfold aP at h
 by_cases h1:aA p≠0
 ·rw[if_pos h1] at h;omega
 rw[if_neg h1] at h
 by_cases h2:¬cj q.name
 ·rw[if_pos h2] at h;omega
 rw[if_neg h2,if_neg (by omega)] at h
 by_cases h3:(q.kind=1/\0<q.goal.length)\/(q.kind=2/\(0<q.bad.length\/0<q.adjacent.length))
 ·rw[if_pos h3] at h;omega
 rw[if_neg h3] at h
 by_cases h4:bC q.start p.states.length≠0
 ·rw[if_pos h4] at h;omega
 rw[if_neg h4] at h
 by_cases h5:¬(∀j,j<q.start.length->q.start.getD j 0∈p.initial)
 ·rw[if_pos h5] at h;omega
 rw[if_neg h5,if_neg (by omega)] at h
 have hz:=bB h
 have hc:=hz (nt p.states.length q.bad) (by simp)
 have ha:=hz (mh p q.adjacent) (by simp)
 refine⟨fun j hj=>?_,?_⟩
 ·have h6:=bB hc (yO p.states.length (q.bad.getD j br)) (List.mem_map.2 ⟨_,by
   rw[gD,gL hj];exact List.getElem_mem _,rfl⟩)
  exact Ak (bB h6 _ (List.mem_cons_self ..))
 ·unfold mh at ha
  by_cases h6:q.adjacent.length=0
  ·exact .inl h6
  ·rw[if_neg h6] at ha
   by_cases h7:p.topology=1
   ·rw[if_pos h7] at ha;omega
   ·rw[if_neg h7] at ha
    by_cases h8:q.adjacent.length≠2
    ·rw[if_pos h8] at ha;omega
    ·omega
theorem JL {t:Int} {l:List Int} {n i:Nat} (hi:i<n):sq t l n i<n/\sr t l n i<n:=by
 unfold sq sr
 by_cases h2:t=2
 ·rw[if_pos h2,if_pos h2];constructor
  ·omega
  ·split<;>omega
 ·rw[if_neg h2,if_neg h2]
  by_cases h3:t=3
  ·rw[if_pos h3,if_pos h3];constructor<;>split<;>omega
  ·rw[if_neg h3,if_neg h3]
   by_cases h4:t=4/\ut t l n=true
   ·rw[if_pos h4,if_pos h4]
    obtain⟨h5,h6⟩:=h4
    unfold ut at h6
    rw[decide_eq_true_iff] at h6
    obtain⟨h7,h8⟩:=h6 h5
    unfold mI kb
    by_cases h9:l.getD i 0=2
    ·have:=h7.two (by omega) h9
     rw[if_pos h9,if_pos h9];constructor<;>omega
    ·rw[if_neg h9,if_neg h9];constructor<;>omega
   ·rw[if_neg h4,if_neg h4];constructor<;>omega
def Al (c:az) (x v:Int):Prop:=0<=x/\c.states.getD x.toNat 0=v
def NB (p:an) (c:az) (a b:Int) (i:Nat):Prop:=c.states.getD i 0=a/\(Al c (sr p.topology c.shape c.states.length i) b\/(p.topology=4/\Al c (sq p.topology c.shape c.states.length i) b))
def KB (p:an) (c:az) (l:List Int):Prop:=∃i,i<c.states.length/\NB p c (l.getD 0 0) (l.getD 1 0) i
noncomputable instance decAdj (p:an) (c:az) (l:List Int):Decidable (KB p c l):=Classical.propDecidable _
theorem Cf (p:an) (c:az) (l:List Int) (hw:bA c=false) (hl:l.length=2):ab Tryz.prog 177 [.agg (aR p), .sl 0 ao l, .agg (aW c)] (fun u=>u= .bool (decide (KB p c l))):=by
 have hc:=bE hw
 refine ab.intro ae ag Tryz.func177 rfl (by decide) ?_;(conv=>whnf)
 refine al rfl ?_
 conv=>whnf
 refine al rfl ?_
 conv=>whnf
 (refine oP (JE p.topology c.shape c.states.length (by omega) (by omega)) ?_;conv=>whnf)
 have f1:((List.range c.states.length).map (sq p.topology c.shape c.states.length)).length=c.states.length:=by simp
 have f2:((List.range c.states.length).map (sr p.topology c.shape c.states.length)).length=c.states.length:=by simp
 refine aQ.loopF ae ag (fun k:Nat=>k<=c.states.length/\∀j,j<k->¬NB p c (l.getD 0 0) (l.getD 1 0) j) (fun k=>[(27, .int .i64 (k:Int))]) (fun _=>[(7, .box 228 [.sl 0 ao ((List.range c.states.length).map (sq p.topology c.shape c.states.length)), .sl 0 ao ((List.range c.states.length).map (sr p.topology c.shape c.states.length)), .sl 0 ao ((List.range c.states.length).map (vR p.topology c.shape c.states.length))])]) (fun k=>c.states.length-k) 0 ⟨by omega,fun j hj=>by omega⟩ ?_;conv=>whnf
 refine⟨sI,?_⟩
 rintro k ⟨hk,ha⟩
 conv=>whnf
 refine ah ?_ ?_<;>(intro h1;conv=>whnf)
 ·have hlt:=JL (t:=p.topology) (l:=c.shape) (n:=c.states.length) (i:=k) (by omega)
  have next:¬NB p c (l.getD 0 0) (l.getD 1 0) k->∀j,j<k+1->¬NB p c (l.getD 0 0) (l.getD 1 0) j:=fun h j hj=>by
   by_cases e:j=k
   ·subst e;exact h
   ·exact ha j (by omega)
  refine nI ?_
  rw[tN]
  conv=>whnf
  refine nI ?_
  conv=>whnf
  refine ah ?_ ?_<;>(intro h2;conv=>whnf)
  ·repeat' ((first|refine nI ?_|refine aI ?_|refine tI ?_|refine fI ?_|fail);conv=>whnf)
   exact⟨k+1,sI,⟨by omega,next (fun h=>h2 h.1)⟩,by dsimp only;omega⟩
  refine nI ?_
  rw[tN,aM _ _ _ (by omega)]
  conv=>whnf
  refine dI ?_
  conv=>whnf
  have h2':c.states.getD k 0=l.getD 0 0:=by
   by_cases e:c.states.getD k 0=l.getD 0 0
   ·exact e
   ·exact absurd e h2
  by_cases hS:Al c (sr p.topology c.shape c.states.length k) (l.getD 1 0)
  ·refine cC hS.1 ?_
   conv=>whnf
   refine bX (by have:=hS.1;omega) ?_
   conv=>whnf
   refine nI ?_
   conv=>whnf
   refine cC hS.2 ?_
   conv=>whnf
   exact⟨aH ⟨k,by omega,h2', .inl hS⟩,rfl⟩
  refine ah ?_ ?_<;>(intro h3;conv=>whnf)
  case' refine_1=>
   refine nI ?_
   conv=>whnf
   refine nI ?_
   conv=>whnf
   refine fP (fun h=>hS ⟨h3,h⟩) ?_
   conv=>whnf
  all_goals
   refine nI ?_
   rw[tN,aM _ _ _ (by omega)]
   conv=>whnf
   refine dI ?_
   conv=>whnf
   by_cases hF:p.topology=4/\Al c (sq p.topology c.shape c.states.length k) (l.getD 1 0)
   ·refine cC hF.1 ?_
    conv=>whnf
    refine cC hF.2.1 ?_
    conv=>whnf
    refine bX (by have:=hF.2.1;omega) ?_
    conv=>whnf
    refine nI ?_
    conv=>whnf
    refine cC hF.2.2 ?_
    conv=>whnf
    exact⟨aH ⟨k,by omega,h2', .inr hF⟩,rfl⟩
   have nx:=next (fun h=>h.2.elim hS hF)
   refine ah ?_ ?_<;>(intro h5;conv=>whnf)
   ·refine ah ?_ ?_<;>(intro h6;conv=>whnf)
    ·refine nI ?_
     conv=>whnf
     refine nI ?_
     conv=>whnf
     refine fP (fun h=>hF ⟨h5,h6,h⟩) ?_
     conv=>whnf
     repeat' ((first|refine nI ?_|refine aI ?_|refine tI ?_|refine fI ?_|fail);conv=>whnf)
     exact⟨k+1,sI,⟨by omega,nx⟩,by dsimp only;omega⟩
    ·repeat' ((first|refine nI ?_|refine aI ?_|refine tI ?_|refine fI ?_|fail);conv=>whnf)
     exact⟨k+1,sI,⟨by omega,nx⟩,by dsimp only;omega⟩
   ·repeat' ((first|refine nI ?_|refine aI ?_|refine tI ?_|refine fI ?_|fail);conv=>whnf)
    exact⟨k+1,sI,⟨by omega,nx⟩,by dsimp only;omega⟩
 ·exact⟨au (fun⟨j,hj,h⟩=>ha j (by omega) h),rfl⟩
end Go.Proofs.YtekmminpfhacpaaGreatDoor
