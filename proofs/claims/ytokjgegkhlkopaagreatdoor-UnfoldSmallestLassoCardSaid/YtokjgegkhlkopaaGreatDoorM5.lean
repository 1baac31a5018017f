import Derived.Test.YtokjgegkhlkopaaGreatDoorM4
set_option linter.unusedVariables false
set_option linter.unusedSimpArgs false
namespace Go.Proofs.YtokjgegkhlkopaaGreatDoor
set_option maxRecDepth 100000
set_option maxHeartbeats 8000000
structure Kh where
 states:List Int
 least:Int
structure bn where
 name:ByteArray
 kind:Int
 start:List Int
 bad:List Kh
 adjacent:List Int
 goal:List Int
def i5:Kh:=⟨[],0⟩
def rF (c:Kh):List AV:=[.sl 0 aD c.states, .int .i64 c.least]
def eh (q:bn):List AV:=[.str q.name, .int .i64 q.kind, .sl 0 aD q.start, .sl i5 rF q.bad, .sl 0 aD q.adjacent, .sl 0 aD q.goal]
def eU (q:bn):Prop:=500<q.name.size\/60<q.start.length\/60<q.bad.length\/60<q.adjacent.length\/60<q.goal.length\/∃j,j<q.bad.length/\60<(q.bad.getD j i5).states.length
instance (q:bn):Decidable (eU q):=inferInstanceAs (Decidable (_\/_))
theorem kE {q:bn} (h:¬eU q):q.name.size<=500/\q.start.length<=60/\q.bad.length<=60/\q.adjacent.length<=60/\q.goal.length<=60:=by
 unfold eU at h
 omega
theorem EP {q:bn} (h:¬eU q):∀j,j<q.bad.length->(q.bad.getD j i5).states.length<=60:=fun j hj=>by
 have:¬(60<(q.bad.getD j i5).states.length):=fun h2=>h (.inr (.inr (.inr (.inr (.inr ⟨j,hj,h2⟩)))))
 omega
def Mr (q:bn):Prop:=(q.name.size<=140737488355328/\q.start.length<=140737488355328/\q.bad.length<=140737488355328/\q.adjacent.length<=140737488355328/\q.goal.length<=140737488355328)/\∀j,j<q.bad.length->(q.bad.getD j i5).states.length<=140737488355328
theorem rG {q:bn} (h:¬eU q):Mr q:=⟨by have:=kE h;omega,fun j hj=>by have:=EP h j hj;omega⟩
theorem EQ {q:bn} (h:Mr q):q.name.size<=140737488355328/\q.start.length<=140737488355328/\q.bad.length<=140737488355328/\q.adjacent.length<=140737488355328/\q.goal.length<=140737488355328:=h.1
theorem qa {q:bn} (h:Mr q):∀j,j<q.bad.length->(q.bad.getD j i5).states.length<=140737488355328:=h.2
theorem I6 (q:bn):ae Tryz.prog 12 [.agg (eh q)] (fun u=>u= .bool (decide (eU q))):=by
 refine ae.intro ab ac Tryz.func12 rfl (by decide) ?_;(conv=>whnf)
 refine am rfl ?_
 conv=>whnf
 repeat' ((first|refine nI ?_|refine aI ?_|refine uI ?_|refine vI ?_|refine dI ?_|refine dR ?_|refine dP ?_|refine am rfl ?_|refine pI _ rfl ?_|refine ak _ rfl ?_|refine tI ?_|refine fI ?_|refine ah (fun _=>?_) (fun _=>?_))<;>conv=>whnf)
 all_goals try first|exact⟨aN (by unfold eU;omega),rfl⟩|skip
 refine aE.loopF ab ac (fun k:Nat=>k<=q.bad.length/\∀j,j<k->¬60<(q.bad.getD j i5).states.length) (fun k=>[(3, .int .i64 (k:Int))]) (fun _=>[]) (fun k=>q.bad.length-k) 0 ⟨by omega,fun j hj=>by omega⟩ ?_;conv=>whnf
 refine⟨sI,?_⟩
 rintro k ⟨hk,ha⟩
 conv=>whnf
 refine ah ?_ ?_<;>(intro h1;conv=>whnf)
 ·refine nI ?_
  rw[tN]
  conv=>whnf
  refine ah ?_ ?_<;>(intro h2;conv=>whnf)
  ·exact⟨aN (.inr (.inr (.inr (.inr (.inr ⟨k,by omega,by omega⟩))))),rfl⟩
  ·repeat' ((first|refine nI ?_|refine aI ?_|refine tI ?_|refine fI ?_|fail);conv=>whnf)
   refine⟨k+1,sI,⟨by omega,fun j hj=>?_⟩,by dsimp only;omega⟩
   by_cases e:j=k
   ·subst e;omega
   ·exact ha j (by omega)
 ·refine⟨aq ?_,rfl⟩
  unfold eU
  rintro(h|h|h|h|h|⟨j,h,h'⟩)
  any_goals omega
  exact ha j (by omega) h'
theorem Hy (l:List Int) (s:Int) (hl:l.length<=4503599627370496):ae Tryz.prog 119 [.sl 0 aD l, .int .i64 s] (fun u=>∃n:Int,u= .int .i64 n/\(0<=n↔s∈l)):=by
 refine ae.intro ab ac Tryz.func119 rfl (by decide) ?_;(conv=>whnf)
 refine aE.loopF ab ac (fun k:Nat=>k<=l.length/\s∉l.take k) (fun k=>[(8, .int .i64 (k:Int))]) (fun _=>[]) (fun k=>l.length-k) 0 ⟨by omega,by simp⟩ ?_;conv=>whnf
 refine⟨sI,?_⟩
 rintro k ⟨hk,ha⟩
 conv=>whnf
 repeat' ((first|refine nI ?_|refine aI ?_|refine uI ?_|refine vI ?_|refine dI ?_|refine dR ?_|refine dP ?_|refine am rfl ?_|refine pI _ rfl ?_|refine ak _ rfl ?_|refine tI ?_|refine fI ?_|refine ah (fun _=>?_) (fun _=>?_))<;>conv=>whnf)
 ·rename_i h1 h2
  rw[tN] at h2
  refine⟨⟨k,rfl,fun _=>?_,fun _=>by omega⟩,rfl⟩
  rw[h2,gD,gL (by omega)]
  exact List.getElem_mem _
 ·rename_i h1 h2
  rw[tN] at h2
  refine⟨k+1,sI,⟨by omega,?_⟩,by dsimp only;omega⟩
  rw[List.take_succ_eq_append_getElem (by omega),List.mem_append,List.mem_singleton,not_or]
  refine⟨ha,?_⟩
  rw[gD,gL (by omega)] at h2
  exact h2
 ·obtain rfl:k=l.length:=by omega
  rw[List.take_length] at ha
  exact⟨⟨-1,rfl,fun h=>by omega,fun h=>absurd h ha⟩,rfl⟩
theorem gm (l:List Int) (s:Int) (hl:l.length<=4503599627370496):ae Tryz.prog 75 [.sl 0 aD l, .int .i64 s] (fun u=>u= .bool (decide (s∈l))):=by
 refine ae.intro ab ac Tryz.func75 rfl (by decide) ?_;(conv=>whnf)
 refine an.of_pure (n:=5) (Hy l s hl) rfl ?_
 rintro _ ⟨n,rfl,hn⟩
 conv=>whnf
 refine ah ?_ ?_<;>(intro h;conv=>whnf)
 ·exact⟨aN (hn.1 h),rfl⟩
 ·exact⟨aq (fun hh=>h (hn.2 hh)),rfl⟩
theorem xA (l:List Int) (s:Int) (hl:l.length<=4503599627370496):ae Tryz.prog 55 [.sl 0 aD l, .int .i64 s] (fun u=>u= .bool (decide (s∈l))):=by
 refine ae.intro ab ac Tryz.func55 rfl (by decide) ?_;(conv=>whnf)
 refine aE.loopF ab ac (fun k:Nat=>k<=l.length/\s∉l.take k) (fun k=>[(5, .int .i64 (k:Int))]) (fun _=>[]) (fun k=>l.length-k) 0 ⟨by omega,by simp⟩ ?_;conv=>whnf
 refine⟨sI,?_⟩
 rintro k ⟨hk,ha⟩
 conv=>whnf
 repeat' ((first|refine nI ?_|refine aI ?_|refine uI ?_|refine vI ?_|refine dI ?_|refine dR ?_|refine dP ?_|refine am rfl ?_|refine pI _ rfl ?_|refine ak _ rfl ?_|refine tI ?_|refine fI ?_|refine ah (fun _=>?_) (fun _=>?_))<;>conv=>whnf)
 ·rename_i h1 h2
  rw[tN] at h2
  refine⟨aN ?_,rfl⟩
  rw[<-h2,gD,gL (by omega)]
  exact List.getElem_mem _
 ·rename_i h1 h2
  rw[tN] at h2
  refine⟨k+1,sI,⟨by omega,?_⟩,by dsimp only;omega⟩
  rw[List.take_succ_eq_append_getElem (by omega),List.mem_append,List.mem_singleton,not_or]
  refine⟨ha,fun e=>h2 ?_⟩
  rw[gD,gL (by omega)]
  exact e.symm
 ·obtain rfl:k=l.length:=by omega
  rw[List.take_length] at ha
  exact⟨aq ha,rfl⟩
def ER (n:Int) (c:Kh):Int:=cF [c7 c.states n,(if c.states.length=0\/c.least<1\/3<c.least then 1 else 0)]
def rH (n:Int) (l:List Kh):Int:=cF (l.map (ER n))
def rI (p:ao) (l:List Int):Int:=if l.length=0 then 0 else if p.topology=1 then 6 else if l.length≠2 then 1 else cF [dj (l.getD 0 0) p.states.length,dj (l.getD 1 0) p.states.length]
def cq (p:ao) (q:bn):Int:=
 if bD p≠0 then bD p else if¬de q.name then 2 else if q.kind≠1/\q.kind≠2 then 1
 else if(q.kind=1/\0<q.goal.length)\/(q.kind=2/\(0<q.bad.length\/0<q.adjacent.length)) then 1
 else if c7 q.start p.states.length≠0 then c7 q.start p.states.length
 else if¬(∀j,j<q.start.length->q.start.getD j 0∈p.initial) then 5
 else if q.kind=2 then cF [c7 q.goal p.states.length,(if q.goal.length=0 then 1 else 0)]
 else cF [(if q.bad.length=0/\q.adjacent.length=0 then 1 else 0),(if 3<q.bad.length then 4 else 0),rH p.states.length q.bad,rI p q.adjacent]
theorem rJ (l:List Kh) (n:Int) (hl:l.length<=4503599627370496) (hs:∀j,j<l.length->(l.getD j i5).states.length<=140737488355328):ae Tryz.prog 78 [.sl i5 rF l, .int .i64 n] (fun u=>u= .int .i64 (rH n l)):=by
 refine ae.intro ab ac Tryz.func78 rfl (by decide) ?_;(conv=>whnf)
 refine aE.loopF ab ac (fun k:Nat=>k<=l.length/\rH n l=cF ((l.drop k).map (ER n))) (fun k=>[(10, .int .i64 (k:Int))]) (fun _=>[]) (fun k=>l.length-k) 0 ⟨by omega,rfl⟩ ?_;conv=>whnf
 refine⟨sI,?_⟩
 rintro k ⟨hk,he⟩
 conv=>whnf
 refine ah ?_ ?_<;>(intro h1;conv=>whnf)
 ·rw[eT _ i5 (by omega)] at he
  have hlen:=hs k (by omega)
  refine nI ?_
  rw[tN]
  generalize l.getD k i5=g at he hlen
  conv=>whnf
  refine dI ?_
  conv=>whnf
  (refine oC (mS g.states n (by omega)) ?_;conv=>whnf)
  have fin:∀c:Int,c=(if g.states.length=0\/g.least<1\/3<g.least then 1 else 0)->cF [c7 g.states n,c]=ER n g:=by rintro c rfl;rfl
  by_cases hc:g.states.length=0\/g.least<1\/3<g.least
  ·have ec:=fin 1 (by rw[if_pos hc])
   repeat' ((first|refine nI ?_|refine aI ?_|refine uI ?_|refine vI ?_|refine dI ?_|refine dR ?_|refine dP ?_|refine am rfl ?_|refine pI _ rfl ?_|refine ak _ rfl ?_|refine tI ?_|refine fI ?_|refine ah (fun _=>?_) (fun _=>?_))<;>conv=>whnf)
   all_goals
    (refine oC (jo 1) ?_;conv=>whnf)
    refine ew ?_
    conv=>whnf
    (refine oC (cV _ (by simp)) ?_;conv=>whnf)
    rw[ec]
    refine ah ?_ ?_<;>(intro h2;conv=>whnf)
    ·rw[if_pos h2] at he
     exact⟨aj he.symm,rfl⟩
    ·rw[if_neg h2] at he
     repeat' ((first|refine nI ?_|refine aI ?_|refine uI ?_|refine vI ?_|refine dI ?_|refine dR ?_|refine dP ?_|refine am rfl ?_|refine pI _ rfl ?_|refine ak _ rfl ?_|refine tI ?_|refine fI ?_|refine ah (fun _=>?_) (fun _=>?_))<;>conv=>whnf)
     exact⟨k+1,sI,⟨by omega,he⟩,by dsimp only;omega⟩
  ·have ec:=fin 0 (by rw[if_neg hc])
   repeat' ((first|refine nI ?_|refine aI ?_|refine tI ?_|refine fI ?_|fail);conv=>whnf)
   (refine oC (g8 1) ?_;conv=>whnf)
   refine ew ?_
   conv=>whnf
   (refine oC (cV _ (by simp)) ?_;conv=>whnf)
   rw[ec]
   refine ah ?_ ?_<;>(intro h2;conv=>whnf)
   ·rw[if_pos h2] at he
    exact⟨aj he.symm,rfl⟩
   ·rw[if_neg h2] at he
    repeat' ((first|refine nI ?_|refine aI ?_|refine uI ?_|refine vI ?_|refine dI ?_|refine dR ?_|refine dP ?_|refine am rfl ?_|refine pI _ rfl ?_|refine ak _ rfl ?_|refine tI ?_|refine fI ?_|refine ah (fun _=>?_) (fun _=>?_))<;>conv=>whnf)
    exact⟨k+1,sI,⟨by omega,he⟩,by dsimp only;omega⟩
 ·rw[List.drop_of_length_le (by omega)] at he
  exact⟨aj he.symm,rfl⟩
theorem ES (p:ao) (l:List Int):ae Tryz.prog 79 [.agg (bf p), .sl 0 aD l] (fun u=>u= .int .i64 (rI p l)):=by
 have he:=rI.eq_1 p l
 refine ae.intro ab ac Tryz.func79 rfl (by decide) ?_;(conv=>whnf)
 refine am rfl ?_
 conv=>whnf
 refine ah ?_ ?_<;>(intro h1;conv=>whnf)
 ·rw[if_pos (by omega)] at he;exact⟨aj he.symm,rfl⟩
 rw[if_neg (by omega)] at he
 refine ah ?_ ?_<;>(intro h2;conv=>whnf)
 ·rw[if_pos h2] at he;exact⟨aj he.symm,rfl⟩
 rw[if_neg h2] at he
 refine ah ?_ ?_<;>(intro h3;conv=>whnf)
 ·rw[if_pos (by omega)] at he;exact⟨aj he.symm,rfl⟩
 rw[if_neg (by omega)] at he
 refine dI ?_
 conv=>whnf
 refine nI ?_
 conv=>whnf
 (refine oC (gS _ _) ?_;conv=>whnf)
 refine nI ?_
 conv=>whnf
 (refine oC (gS _ _) ?_;conv=>whnf)
 refine ew ?_
 conv=>whnf
 (refine oC (cV _ (by simp)) ?_;conv=>whnf)
 exact⟨aj he.symm,rfl⟩
theorem o1 (p:ao) (q:bn) (hp:Ex p) (hq:Mr q):ae Tryz.prog 40 [.agg (bf p), .agg (eh q)] (fun u=>u= .int .i64 (cq p q)):=by
 have hle:=oX hp
 have hlq:=EQ hq
 have he:=cq.eq_1 p q
 refine ae.intro ab ac Tryz.func40 rfl (by decide) ?_;(conv=>whnf)
 refine am rfl ?_
 conv=>whnf
 refine am rfl ?_
 conv=>whnf
 (refine oP (jU p hp) ?_;conv=>whnf)
 refine ah ?_ ?_<;>(intro h1;conv=>whnf)
 ·rw[if_pos h1] at he;exact⟨aj he.symm,rfl⟩
 rw[if_neg h1] at he
 refine ah ?_ ?_<;>(intro hk;conv=>whnf)
 all_goals
  refine dC (fu q.name (by omega)) (fun _=>?_) (fun _=>?_)<;>(conv=>whnf)
  case refine_2=>rename_i hv;rw[if_pos hv] at he;exact⟨aj he.symm,rfl⟩
  rename_i hv
  rw[if_neg (fun h=>h hv)] at he
  by_cases hA:q.kind≠1/\q.kind≠2
  ·rw[if_pos hA] at he
   repeat' ((first|refine nI ?_|refine aI ?_|refine uI ?_|refine vI ?_|refine dI ?_|refine dR ?_|refine dP ?_|refine am rfl ?_|refine pI _ rfl ?_|refine ak _ rfl ?_|refine tI ?_|refine fI ?_|refine ah (fun _=>?_) (fun _=>?_))<;>conv=>whnf)
   all_goals exact⟨aj he.symm,rfl⟩
  rw[if_neg hA] at he
  by_cases hB:(q.kind=1/\0<q.goal.length)\/(q.kind=2/\(0<q.bad.length\/0<q.adjacent.length))
  ·rw[if_pos hB] at he
   repeat' ((first|refine nI ?_|refine aI ?_|refine uI ?_|refine vI ?_|refine dI ?_|refine dR ?_|refine dP ?_|refine am rfl ?_|refine pI _ rfl ?_|refine ak _ rfl ?_|refine tI ?_|refine fI ?_|refine ah (fun _=>?_) (fun _=>?_))<;>conv=>whnf)
   all_goals exact⟨aj he.symm,rfl⟩
  rw[if_neg hB] at he
  repeat' ((first|refine nI ?_|refine aI ?_|refine tI ?_|refine fI ?_|fail);conv=>whnf)
  (refine oP (mS q.start _ (by omega)) ?_;conv=>whnf)
  refine ah ?_ ?_<;>(intro h2;conv=>whnf)
  ·rw[if_pos h2] at he;exact⟨aj he.symm,rfl⟩
  rw[if_neg h2] at he
  refine aE.loopF ab ac (fun k:Nat=>k<=q.start.length/\∀j,j<k->q.start.getD j 0∈p.initial) (fun k=>[(67, .int .i64 (k:Int))]) (fun _=>[]) (fun k=>q.start.length-k) 0 ⟨by omega,fun j hj=>by omega⟩ ?_;conv=>whnf
  refine⟨sI,?_⟩
  rintro k ⟨hk',ha⟩
  conv=>whnf
  refine ah ?_ ?_<;>(intro h3;conv=>whnf)
  ·refine nI ?_
   rw[tN]
   conv=>whnf
   refine dC (gm p.initial _ (by omega)) (fun _=>?_) (fun _=>?_)<;>(conv=>whnf)
   ·rename_i hm
    repeat' ((first|refine nI ?_|refine aI ?_|refine tI ?_|refine fI ?_|fail);conv=>whnf)
    refine⟨k+1,sI,⟨by omega,fun j hj=>?_⟩,by dsimp only;omega⟩
    by_cases e:j=k
    ·subst e;exact hm
    ·exact ha j (by omega)
   ·rename_i hm
    rw[if_pos (fun h=>hm (h k (by omega)))] at he
    exact⟨aj he.symm,rfl⟩
  rw[if_neg (fun h=>h (fun j hj=>ha j (by omega)))] at he
  refine dI ?_
  conv=>whnf
 ·rw[if_neg (by omega)] at he
  have fin:∀a b:Int,a=(if q.bad.length=0/\q.adjacent.length=0 then 1 else 0)->b=(if 3<q.bad.length then 4 else 0)->cq p q=cF [a,b,rH p.states.length q.bad,rI p q.adjacent]:=by rintro a b rfl rfl;exact he
  by_cases hC:q.bad.length=0/\q.adjacent.length=0
  ·have f1:=fin 1 0 (by rw[if_pos hC]) (by rw[if_neg (by omega)])
   repeat' ((first|refine nI ?_|refine aI ?_|refine tI ?_|refine fI ?_|fail);conv=>whnf)
   (refine oC (jo 1) ?_;conv=>whnf)
   repeat' ((first|refine nI ?_|refine aI ?_|refine tI ?_|refine fI ?_|fail);conv=>whnf)
   (refine oC (g8 4) ?_;conv=>whnf)
   (refine oC (rJ q.bad _ (by omega) (qa hq)) ?_;conv=>whnf)
   (refine oC (ES p q.adjacent) ?_;conv=>whnf)
   refine ew ?_
   conv=>whnf
   (refine oC (cV _ (by simp)) ?_;conv=>whnf)
   exact⟨aj f1.symm,rfl⟩
  ·by_cases hD:3<q.bad.length
   ·have f1:=fin 0 4 (by rw[if_neg hC]) (by rw[if_pos hD])
    repeat' ((first|refine nI ?_|refine aI ?_|refine uI ?_|refine vI ?_|refine dI ?_|refine dR ?_|refine dP ?_|refine am rfl ?_|refine pI _ rfl ?_|refine ak _ rfl ?_|refine tI ?_|refine fI ?_|refine ah (fun _=>?_) (fun _=>?_))<;>conv=>whnf)
    all_goals
     (refine oC (g8 1) ?_;conv=>whnf)
     repeat' ((first|refine nI ?_|refine aI ?_|refine tI ?_|refine fI ?_|fail);conv=>whnf)
     (refine oC (jo 4) ?_;conv=>whnf)
     (refine oC (rJ q.bad _ (by omega) (qa hq)) ?_;conv=>whnf)
     (refine oC (ES p q.adjacent) ?_;conv=>whnf)
     refine ew ?_
     conv=>whnf
     (refine oC (cV _ (by simp)) ?_;conv=>whnf)
     exact⟨aj f1.symm,rfl⟩
   ·have f1:=fin 0 0 (by rw[if_neg hC]) (by rw[if_neg hD])
    repeat' ((first|refine nI ?_|refine aI ?_|refine uI ?_|refine vI ?_|refine dI ?_|refine dR ?_|refine dP ?_|refine am rfl ?_|refine pI _ rfl ?_|refine ak _ rfl ?_|refine tI ?_|refine fI ?_|refine ah (fun _=>?_) (fun _=>?_))<;>conv=>whnf)
    all_goals
     (refine oC (g8 1) ?_;conv=>whnf)
     repeat' ((first|refine nI ?_|refine aI ?_|refine tI ?_|refine fI ?_|fail);conv=>whnf)
     (refine oC (g8 4) ?_;conv=>whnf)
     (refine oC (rJ q.bad _ (by omega) (qa hq)) ?_;conv=>whnf)
     (refine oC (ES p q.adjacent) ?_;conv=>whnf)
     refine ew ?_
     conv=>whnf
     (refine oC (cV _ (by simp)) ?_;conv=>whnf)
     exact⟨aj f1.symm,rfl⟩
 ·rw[if_pos (by omega)] at he
  (refine oC (mS q.goal _ (by omega)) ?_;conv=>whnf)
  by_cases hC:q.goal.length=0
  ·rw[if_pos hC] at he
   repeat' ((first|refine nI ?_|refine aI ?_|refine tI ?_|refine fI ?_|fail);conv=>whnf)
   (refine oC (jo 1) ?_;conv=>whnf)
   refine ew ?_
   conv=>whnf
   (refine oC (cV _ (by simp)) ?_;conv=>whnf)
   exact⟨aj he.symm,rfl⟩
  ·rw[if_neg hC] at he
   repeat' ((first|refine nI ?_|refine aI ?_|refine tI ?_|refine fI ?_|fail);conv=>whnf)
   (refine oC (g8 1) ?_;conv=>whnf)
   refine ew ?_
   conv=>whnf
   (refine oC (cV _ (by simp)) ?_;conv=>whnf)
   exact⟨aj he.symm,rfl⟩
theorem ub (p:ao) (q:bn) (hp:Ex p) (hq:Mr q):ae Tryz.prog 36 [.agg (bf p), .agg (eh q)] (fun u=>u= .int .i64 (cq p q)):=by
 have hle:=oX hp
 have hlq:=EQ hq
 have he:=cq.eq_1 p q
 refine ae.intro ab ac Tryz.func36 rfl (by decide) ?_;(conv=>whnf)
 refine am rfl ?_
 conv=>whnf
 refine am rfl ?_
 conv=>whnf
 (refine oP (o0 p hp) ?_;conv=>whnf)
 refine ah ?_ ?_<;>(intro h1;conv=>whnf)
 ·rw[if_pos h1] at he;exact⟨aj he.symm,rfl⟩
 rw[if_neg h1] at he
 refine dC (ky q.name (by omega)) (fun _=>?_) (fun _=>?_)<;>(conv=>whnf)
 case refine_2=>rename_i hv;rw[if_pos hv] at he;exact⟨aj he.symm,rfl⟩
 rename_i hv
 rw[if_neg (fun h=>h hv)] at he
 by_cases hA:q.kind≠1/\q.kind≠2
 ·rw[if_pos hA] at he
  repeat' ((first|refine nI ?_|refine aI ?_|refine uI ?_|refine vI ?_|refine dI ?_|refine dR ?_|refine dP ?_|refine am rfl ?_|refine pI _ rfl ?_|refine ak _ rfl ?_|refine tI ?_|refine fI ?_|refine ah (fun _=>?_) (fun _=>?_))<;>conv=>whnf)
  all_goals exact⟨aj he.symm,rfl⟩
 rw[if_neg hA] at he
 by_cases hB:(q.kind=1/\0<q.goal.length)\/(q.kind=2/\(0<q.bad.length\/0<q.adjacent.length))
 ·rw[if_pos hB] at he
  repeat' ((first|refine nI ?_|refine aI ?_|refine uI ?_|refine vI ?_|refine dI ?_|refine dR ?_|refine dP ?_|refine am rfl ?_|refine pI _ rfl ?_|refine ak _ rfl ?_|refine tI ?_|refine fI ?_|refine ah (fun _=>?_) (fun _=>?_))<;>conv=>whnf)
  all_goals exact⟨aj he.symm,rfl⟩
 rw[if_neg hB] at he
 have hk12:q.kind=1\/q.kind=2:=by omega
 rcases hk12 with hk|hk
 all_goals
  repeat' ((first|refine nI ?_|refine aI ?_|refine tI ?_|refine fI ?_|fail);conv=>whnf)
  (refine oP (rn q.start _ (by omega) (by omega)) ?_;conv=>whnf)
  refine ah ?_ ?_<;>(intro h2;conv=>whnf)
  ·rw[if_pos h2] at he;exact⟨aj he.symm,rfl⟩
  rw[if_neg h2] at he
  refine aE.loopF ab ac (fun k:Nat=>k<=q.start.length/\∀j,j<k->q.start.getD j 0∈p.initial) (fun k=>[(8, .int .i64 (k:Int))]) (fun _=>[]) (fun k=>q.start.length-k) 0 ⟨by omega,fun j hj=>by omega⟩ ?_;conv=>whnf
  refine⟨sI,?_⟩
  rintro k ⟨hk',ha⟩
  conv=>whnf
  refine ah ?_ ?_<;>(intro h3;conv=>whnf)
  ·refine dI ?_
   conv=>whnf
   refine nI ?_
   rw[tN]
   conv=>whnf
   refine dD (xA p.initial _ (by omega)) (fun _=>?_) (fun _=>?_)<;>(conv=>whnf)
   ·rename_i hm
    repeat' ((first|refine nI ?_|refine aI ?_|refine tI ?_|refine fI ?_|fail);conv=>whnf)
    refine⟨k+1,sI,⟨by omega,fun j hj=>?_⟩,by dsimp only;omega⟩
    by_cases e:j=k
    ·subst e;exact hm
    ·exact ha j (by omega)
   ·rename_i hm
    rw[if_pos (fun h=>hm (h k (by omega)))] at he
    exact⟨aj he.symm,rfl⟩
  rw[if_neg (fun h=>h (fun j hj=>ha j (by omega)))] at he
  repeat' ((first|refine nI ?_|refine aI ?_|refine tI ?_|refine fI ?_|fail);conv=>whnf)
 ·rw[if_neg (by omega)] at he
  by_cases hC:q.bad.length=0/\q.adjacent.length=0
  ·rw[if_pos hC] at he
   repeat' ((first|refine nI ?_|refine aI ?_|refine tI ?_|refine fI ?_|fail);conv=>whnf)
   exact⟨aj he.symm,rfl⟩
  rw[if_neg hC] at he
  have he:cq p q=cF [(if 3<q.bad.length then 4 else 0),rH p.states.length q.bad,rI p q.adjacent]:=he
  by_cases hD:3<q.bad.length
  ·rw[if_pos hD] at he
   repeat' ((first|refine nI ?_|refine aI ?_|refine uI ?_|refine vI ?_|refine dI ?_|refine dR ?_|refine dP ?_|refine am rfl ?_|refine pI _ rfl ?_|refine ak _ rfl ?_|refine tI ?_|refine fI ?_|refine ah (fun _=>?_) (fun _=>?_))<;>conv=>whnf)
   all_goals exact⟨aj he.symm,rfl⟩
  rw[if_neg hD] at he
  have he:cq p q=cF [rH p.states.length q.bad,rI p q.adjacent]:=he
  repeat' ((first|refine nI ?_|refine aI ?_|refine uI ?_|refine vI ?_|refine dI ?_|refine dR ?_|refine dP ?_|refine am rfl ?_|refine pI _ rfl ?_|refine ak _ rfl ?_|refine tI ?_|refine fI ?_|refine ah (fun _=>?_) (fun _=>?_))<;>conv=>whnf)
  all_goals
   refine aE.loopF ab ac (fun k:Nat=>k<=q.bad.length/\rH p.states.length q.bad=cF ((q.bad.drop k).map (ER p.states.length))) (fun k=>[(10, .int .i64 (k:Int))]) (fun _=>[]) (fun k=>q.bad.length-k) 0 ⟨by omega,rfl⟩ ?_;conv=>whnf
   refine⟨sI,?_⟩
   rintro k ⟨hk',hr⟩
   conv=>whnf
   refine ah ?_ ?_<;>(intro h3;conv=>whnf)
   ·first
    |(exfalso;omega)
    |rw[eT _ i5 (by omega)] at hr
     have hlen:=qa hq k (by omega)
     refine nI ?_
     rw[tN]
     conv=>whnf
     (refine oP (rn (q.bad.getD k i5).states _ (by omega) (by omega)) ?_;conv=>whnf)
     have hg:=ER.eq_1 p.states.length (q.bad.getD k i5)
     refine ah ?_ ?_<;>(intro h4;conv=>whnf)
     ·rw[cG h4] at hg
      rw[hg,if_pos h4] at hr
      rw[hr,cG h4] at he
      exact⟨aj he.symm,rfl⟩
     refine nI ?_
     rw[tN]
     conv=>whnf
     rw[bL (by omega)] at hg
     by_cases hc:(q.bad.getD k i5).states.length=0\/(q.bad.getD k i5).least<1\/3<(q.bad.getD k i5).least
     ·rw[if_pos hc] at hg
      rw[hg] at hr
      rw[hr] at he
      by_cases hz:(q.bad.getD k i5).states.length=0
      ·repeat' ((first|refine nI ?_|refine aI ?_|refine tI ?_|refine fI ?_|fail);conv=>whnf)
       exact⟨aj he.symm,rfl⟩
      ·repeat' ((first|refine nI ?_|refine aI ?_|refine tI ?_|refine fI ?_|fail);conv=>whnf)
       refine dC (bm _ _ _) (fun _=>?_) (fun _=>?_)<;>(conv=>whnf)
       ·rename_i h;rw[tN] at h;omega
       ·exact⟨aj he.symm,rfl⟩
     ·rw[if_neg hc] at hg
      rw[hg] at hr
      repeat' ((first|refine nI ?_|refine aI ?_|refine tI ?_|refine fI ?_|fail);conv=>whnf)
      refine dC (bm _ _ _) (fun _=>?_) (fun _=>?_)<;>(conv=>whnf)
      ·repeat' ((first|refine nI ?_|refine aI ?_|refine tI ?_|refine fI ?_|fail);conv=>whnf)
       exact⟨k+1,sI,⟨by omega,hr⟩,by dsimp only;omega⟩
      ·rename_i h;rw[tN] at h;omega
   rw[List.drop_of_length_le (by omega)] at hr
   rw[bL hr] at he
   have he:cq p q=(if rI p q.adjacent≠0 then rI p q.adjacent else 0):=he
   have ha':=rI.eq_1 p q.adjacent
   by_cases h0:q.adjacent.length=0
   ·rw[if_pos h0] at ha'
    rw[ha'] at he
    first
    |(exfalso;omega)
    |skip
     repeat' ((first|refine nI ?_|refine aI ?_|refine tI ?_|refine fI ?_|fail);conv=>whnf)
     refine aE.loopF ab ac (fun i:Nat=>i=0) (fun i=>[(12, .int .i64 (i:Int))]) (fun _=>[]) (fun _=>0) 0 rfl ?_;conv=>whnf
     refine⟨sI,?_⟩
     rintro i rfl
     conv=>whnf
     repeat' ((first|refine nI ?_|refine aI ?_|refine tI ?_|refine fI ?_|fail);conv=>whnf)
     exact⟨aj he.symm,rfl⟩
   rw[if_neg h0] at ha'
   by_cases ht:p.topology=1
   ·rw[if_pos ht] at ha'
    rw[ha'] at he
    repeat' ((first|refine nI ?_|refine aI ?_|refine tI ?_|refine fI ?_|fail);conv=>whnf)
    exact⟨aj he.symm,rfl⟩
   rw[if_neg ht] at ha'
   by_cases h2':q.adjacent.length≠2
   ·rw[if_pos h2'] at ha'
    rw[ha'] at he
    repeat' ((first|refine nI ?_|refine aI ?_|refine tI ?_|refine fI ?_|fail);conv=>whnf)
    exact⟨aj he.symm,rfl⟩
   rw[if_neg h2'] at ha'
   repeat' ((first|refine nI ?_|refine aI ?_|refine tI ?_|refine fI ?_|fail);conv=>whnf)
   refine aE.loopF ab ac (fun i:Nat=>i<=2/\∀j,j<i->0<=q.adjacent.getD j 0/\q.adjacent.getD j 0<p.states.length) (fun i=>[(12, .int .i64 (i:Int))]) (fun _=>[]) (fun i=>2-i) 0 ⟨by omega,fun j hj=>by omega⟩ ?_;conv=>whnf
   refine⟨sI,?_⟩
   rintro i ⟨hi,hin⟩
   conv=>whnf
   refine ah ?_ ?_<;>(intro h5;conv=>whnf)
   ·refine nI ?_
    rw[tN]
    conv=>whnf
    repeat' ((first|refine nI ?_|refine aI ?_|refine tI ?_|refine fI ?_|fail);conv=>whnf)
    refine dC (bm _ _ _) (fun _=>?_) (fun _=>?_)<;>(conv=>whnf)
    ·rename_i h6
     repeat' ((first|refine nI ?_|refine aI ?_|refine tI ?_|refine fI ?_|fail);conv=>whnf)
     refine⟨i+1,sI,⟨by omega,fun j hj=>?_⟩,by dsimp only;omega⟩
     by_cases e:j=i
     ·subst e;omega
     ·exact hin j (by omega)
    ·rename_i h6
     have h7:rI p q.adjacent=5:=by
      rw[ha']
      have hi2:i=0\/i=1:=by omega
      rcases hi2 with rfl|rfl
      ·rw[cG (by rw[dj,if_pos (by omega)];decide),dj,if_pos (by omega)]
      ·have:=hin 0 (by omega)
       rw[bL (by rw[dj,if_neg (by omega)]),cG (by rw[dj,if_pos (by omega)];decide),dj,if_pos (by omega)]
     rw[h7] at he
     exact⟨aj he.symm,rfl⟩
   ·have h7:rI p q.adjacent=0:=by
     rw[ha']
     have a0:=hin 0 (by omega)
     have a1:=hin 1 (by omega)
     rw[bL (by rw[dj,if_neg (by omega)]),bL (by rw[dj,if_neg (by omega)])];rfl
    rw[h7] at he
    exact⟨aj he.symm,rfl⟩
 ·rw[if_pos (by omega)] at he
  (refine oP (rn q.goal _ (by omega) (by omega)) ?_;conv=>whnf)
  refine ah ?_ ?_<;>(intro h4;conv=>whnf)
  ·rw[cG h4] at he;exact⟨aj he.symm,rfl⟩
  rw[bL (by omega)] at he
  by_cases h5:q.goal.length=0
  ·rw[if_pos h5] at he
   repeat' ((first|refine nI ?_|refine aI ?_|refine tI ?_|refine fI ?_|fail);conv=>whnf)
   exact⟨aj he.symm,rfl⟩
  ·rw[if_neg h5] at he
   repeat' ((first|refine nI ?_|refine aI ?_|refine tI ?_|refine fI ?_|fail);conv=>whnf)
   exact⟨aj he.symm,rfl⟩
theorem Ki (l:List Int) (a:Int) (i:Nat) (ha:a=i) (h:kO l) (hi:i<l.length) (hl:l.length<=1000):ae Tryz.prog 129 [.sl 0 aD l, .int .i64 a] (fun u=>u= .int .i64 (bI l i:Int)):=by
 subst ha
 have hat:=h.at hi
 refine ae.intro ab ac Tryz.func129 rfl (by decide) ?_;(conv=>whnf)
 refine aE.loopF ab ac (fun x:Nat×Nat=>x.2<=l.length/\x.1<=x.2+1/\bV x.1 (l.drop x.2)=some (l.drop (bI l i))) (fun x=>[(5, .int .i64 (x.1:Int)),(1, .int .i64 (x.2:Int))]) (fun _=>[]) (fun x=>l.length-x.2) (1,i) ⟨by dsimp only;omega,by dsimp only;omega,hat.1⟩ ?_;conv=>whnf
 refine⟨sI,?_⟩
 rintro x ⟨h1,h2,h3⟩
 conv=>whnf
 refine ah ?_ ?_<;>(intro h4;conv=>whnf)
 ·obtain⟨d,hd⟩:∃d,x.1=d+1:=⟨x.1-1,by omega⟩
  rw[hd] at h3
  have hj:x.2<l.length:=by
   by_cases hj:x.2<l.length
   ·exact hj
   ·rw[List.drop_of_length_le (by omega),gg] at h3;cases h3
  rw[gj hj,cw] at h3
  refine nI ?_
  rw[tN]
  conv=>whnf
  by_cases h0:l.getD x.2 0=0
  ·rw[if_pos h0] at h3
   repeat' ((first|refine nI ?_|refine aI ?_|refine tI ?_|refine fI ?_|fail);conv=>whnf)
   exact⟨(d,x.2+1),sI,⟨by dsimp only;omega,by dsimp only;omega,h3⟩,by dsimp only;omega⟩
  ·rw[if_neg h0] at h3
   by_cases h5:l.getD x.2 0=2
   ·rw[if_pos h5] at h3
    repeat' ((first|refine nI ?_|refine aI ?_|refine tI ?_|refine fI ?_|fail);conv=>whnf)
    exact⟨(d+2,x.2+1),sI,⟨by dsimp only;omega,by dsimp only;omega,h3⟩,by dsimp only;omega⟩
   ·rw[if_neg h5] at h3;cases h3
 ·have h6:x.1=0:=by omega
  rw[h6,eD,Option.some.injEq] at h3
  have h5:=congrArg List.length h3
  simp only[List.length_drop] at h5
  exact⟨aj (by omega),rfl⟩
theorem AN {l:List Int} {j k:Nat} (h:l.getD k 0=2) (h2:k+1=j):dp l j k=true:=by unfold dp;rw[decide_eq_true h,decide_eq_true h2];rfl
theorem AO {l:List Int} {j k:Nat} (h:l.getD k 0=2) (h2:bI l (k+1)=j):dp l j k=true:=by unfold dp;rw[decide_eq_true h,decide_eq_true h2];cases decide (k+1=j)<;>rfl
theorem AP {l:List Int} {j k:Nat} (h:¬k+1=j) (h2:¬bI l (k+1)=j):dp l j k=false:=by unfold dp;rw[decide_eq_false h,decide_eq_false h2];cases decide (l.getD k 0=2)<;>rfl
theorem AQ {l:List Int} {j k:Nat} (h:¬l.getD k 0=2):dp l j k=false:=by unfold dp;rw[decide_eq_false h];rfl
theorem zE (t:Int) (l:List Int) (n i:Nat) (hl:l.length<=1000) (hn:n<=1000) (hi:i<n):ae Tryz.prog 100 [.int .i64 t, .sl 0 aD l, .int .i64 (n:Int), .int .i64 (i:Int)] (fun u=>u=Me (Ng t l n i)):=by
 have he:=Ng.eq_1 t l n i
 rw[if_neg (by omega)] at he
 refine ae.intro ab ac Tryz.func100 rfl (by decide) ?_;(conv=>whnf)
 repeat' ((first|refine nI ?_|refine aI ?_|refine tI ?_|refine fI ?_|fail);conv=>whnf)
 refine dC (kC _ _ _) (fun _=>?_) (fun _=>?_)<;>(conv=>whnf)
 case refine_2=>rename_i h;omega
 refine ah ?_ ?_<;>(intro h3;conv=>whnf)
 ·rw[if_neg (by omega),if_pos h3] at he
  have hm:((i:Int)+1).tmod n=if(i:Int)+1=n then 0 else(i:Int)+1:=by
   by_cases h:(i:Int)+1=n
   ·rw[if_pos h,h,Int.tmod_self]
   ·rw[if_neg h,Int.tmod_eq_of_lt (by omega) (by omega)]
  by_cases hz:i=0
  ·rw[if_pos (by omega)] at he
   repeat' ((first|refine nI ?_|refine aI ?_|refine tI ?_|refine fI ?_|fail);conv=>whnf)
   refine dI ?_
   conv=>whnf
   repeat' ((first|refine nI ?_|refine aI ?_|refine tI ?_|refine fI ?_|fail);conv=>whnf)
   exact⟨jm (by rw[he,hm]),rfl⟩
  ·rw[if_neg (by omega)] at he
   repeat' ((first|refine nI ?_|refine aI ?_|refine tI ?_|refine fI ?_|fail);conv=>whnf)
   refine dI ?_
   conv=>whnf
   repeat' ((first|refine nI ?_|refine aI ?_|refine tI ?_|refine fI ?_|fail);conv=>whnf)
   exact⟨jm (by rw[he,hm]),rfl⟩
 refine ah ?_ ?_<;>(intro h2;conv=>whnf)
 ·rw[if_pos h2] at he
  by_cases hz:(i:Int)+1=n
  ·rw[if_pos hz] at he
   repeat' ((first|refine nI ?_|refine aI ?_|refine tI ?_|refine fI ?_|fail);conv=>whnf)
   exact⟨jm he,rfl⟩
  ·rw[if_neg hz] at he
   repeat' ((first|refine nI ?_|refine aI ?_|refine tI ?_|refine fI ?_|fail);conv=>whnf)
   exact⟨jm he,rfl⟩
 rw[if_neg h2,if_neg h3] at he
 by_cases h4:t=4/\(l.length:Int)=n
 case neg=>
  rw[if_neg (fun h=>h4 ⟨h.1,h.2.1⟩)] at he
  repeat' ((first|refine nI ?_|refine aI ?_|refine uI ?_|refine vI ?_|refine dI ?_|refine dR ?_|refine dP ?_|refine am rfl ?_|refine pI _ rfl ?_|refine ak _ rfl ?_|refine tI ?_|refine fI ?_|refine ah (fun _=>?_) (fun _=>?_))<;>conv=>whnf)
  all_goals exact⟨jm he,rfl⟩
 obtain⟨rfl,h5⟩:=h4
 repeat' ((first|refine nI ?_|refine aI ?_|refine tI ?_|refine fI ?_|fail);conv=>whnf)
 refine dC (xv l hl) (fun _=>?_) (fun _=>?_)<;>(conv=>whnf)
 case refine_2=>
  rename_i hs
  rw[if_neg (fun h=>hs h.2.2)] at he
  exact⟨jm he,rfl⟩
 rename_i hs
 rw[if_pos ⟨rfl,h5,hs⟩,tN] at he
 refine nI ?_
 rw[tN]
 conv=>whnf
 by_cases h6:l.getD i 0=2
 ·have h7:=hs.two (by omega) h6
  rw[jA,if_pos h6,gA,if_pos h6] at he
  repeat' ((first|refine nI ?_|refine aI ?_|refine tI ?_|refine fI ?_|fail);conv=>whnf)
  (refine oP (Ki l _ (i+1) (by omega) hs (by omega) hl) ?_;conv=>whnf)
  refine aE.loopF ab ac (fun k:Nat=>k<=i) (fun k=>[(17, .int .i64 (k:Int)),(16, .int .i64 (mR l i k))]) (fun _=>[]) (fun k=>i-k) 0 (Nat.zero_le _) ?_;conv=>whnf
  refine⟨sI,?_⟩
  rintro k hk
  conv=>whnf
  refine ah ?_ ?_<;>(intro h8;conv=>whnf)
  ·have hsu:=jS l i k
   refine nI ?_
   rw[tN]
   conv=>whnf
   refine ah ?_ ?_<;>(intro h9;conv=>whnf)
   ·have h10:=hs.two (by omega) h9
    by_cases h11:k+1=i
    ·rw[AN h9 h11,if_pos rfl] at hsu
     repeat' ((first|refine nI ?_|refine aI ?_|refine tI ?_|refine fI ?_|fail);conv=>whnf)
     exact⟨k+1,sI,by omega,by dsimp only;omega⟩
    ·repeat' ((first|refine nI ?_|refine aI ?_|refine tI ?_|refine fI ?_|fail);conv=>whnf)
     (refine oP (Ki l _ (k+1) (by omega) hs (by omega) hl) ?_;conv=>whnf)
     by_cases h12:bI l (k+1)=i
     ·rw[AO h9 h12,if_pos rfl] at hsu
      repeat' ((first|refine nI ?_|refine aI ?_|refine tI ?_|refine fI ?_|fail);conv=>whnf)
      exact⟨k+1,sI,by omega,by dsimp only;omega⟩
     ·rw[AP h11 h12,if_neg (by decide)] at hsu
      repeat' ((first|refine nI ?_|refine aI ?_|refine tI ?_|refine fI ?_|fail);conv=>whnf)
      exact⟨k+1,sI,by omega,by dsimp only;omega⟩
   ·rw[AQ h9,if_neg (by decide)] at hsu
    repeat' ((first|refine nI ?_|refine aI ?_|refine tI ?_|refine fI ?_|fail);conv=>whnf)
    exact⟨k+1,sI,by omega,by dsimp only;omega⟩
  ·obtain rfl:k=i:=by omega
   exact⟨jm he,rfl⟩
 ·rw[jA,if_neg h6,gA,if_neg h6] at he
  repeat' ((first|refine nI ?_|refine aI ?_|refine tI ?_|refine fI ?_|fail);conv=>whnf)
  refine aE.loopF ab ac (fun k:Nat=>k<=i) (fun k=>[(17, .int .i64 (k:Int)),(16, .int .i64 (mR l i k))]) (fun _=>[]) (fun k=>i-k) 0 (Nat.zero_le _) ?_;conv=>whnf
  refine⟨sI,?_⟩
  rintro k hk
  conv=>whnf
  refine ah ?_ ?_<;>(intro h8;conv=>whnf)
  ·have hsu:=jS l i k
   refine nI ?_
   rw[tN]
   conv=>whnf
   refine ah ?_ ?_<;>(intro h9;conv=>whnf)
   ·have h10:=hs.two (by omega) h9
    by_cases h11:k+1=i
    ·rw[AN h9 h11,if_pos rfl] at hsu
     repeat' ((first|refine nI ?_|refine aI ?_|refine tI ?_|refine fI ?_|fail);conv=>whnf)
     exact⟨k+1,sI,by omega,by dsimp only;omega⟩
    ·repeat' ((first|refine nI ?_|refine aI ?_|refine tI ?_|refine fI ?_|fail);conv=>whnf)
     (refine oP (Ki l _ (k+1) (by omega) hs (by omega) hl) ?_;conv=>whnf)
     by_cases h12:bI l (k+1)=i
     ·rw[AO h9 h12,if_pos rfl] at hsu
      repeat' ((first|refine nI ?_|refine aI ?_|refine tI ?_|refine fI ?_|fail);conv=>whnf)
      exact⟨k+1,sI,by omega,by dsimp only;omega⟩
     ·rw[AP h11 h12,if_neg (by decide)] at hsu
      repeat' ((first|refine nI ?_|refine aI ?_|refine tI ?_|refine fI ?_|fail);conv=>whnf)
      exact⟨k+1,sI,by omega,by dsimp only;omega⟩
   ·rw[AQ h9,if_neg (by decide)] at hsu
    repeat' ((first|refine nI ?_|refine aI ?_|refine tI ?_|refine fI ?_|fail);conv=>whnf)
    exact⟨k+1,sI,by omega,by dsimp only;omega⟩
  ·obtain rfl:k=i:=by omega
   exact⟨jm he,rfl⟩
theorem aL {c:ap} (hw:bc c=false):c.shape.length<=100/\c.states.length<=100/\c.sent.length<=100/\c.faulty.length<=100:=by
 unfold bc at hw
 simp at hw
 omega
def I7 (p:ao) (c:ap):Prop:=kX c.states p.states.length/\0<=c.correct/\c.correct<=c.states.length
noncomputable instance decPl (p:ao) (c:ap):Decidable (I7 p c):=Classical.propDecidable _
def OG (p:ao) (c:ap):Prop:=p.topology=4->c.shape.length=c.states.length/\kO c.shape
noncomputable instance decTr (p:ao) (c:ap):Decidable (OG p c):=Classical.propDecidable _
def c8 (q:bn) (c:ap):Prop:=∀j:Nat,(j:Int)<c.correct->c.states.getD j 0∈q.goal
noncomputable instance decRch (q:bn) (c:ap):Decidable (c8 q c):=Classical.propDecidable _
theorem mb {l:List Int} {k n:Nat} (h:k<n):(l.take n).getD k 0=l.getD k 0:=by
 rw[gD,gD,List.getElem?_take,if_pos h]
theorem xB (q:bn) (c:ap) (hq:¬eU q) (hw:bc c=false) (hc0:0<=c.correct/\c.correct<=c.states.length):ae Tryz.prog 83 [.agg (eh q), .agg (bg c)] (fun u=>u= .bool (decide (c8 q c))):=by
 have hlq:=kE hq
 have hc:=aL hw
 have hlen:(c.states.take c.correct.toNat).length=c.correct.toNat:=by rw[List.length_take];omega
 refine ae.intro ab ac Tryz.func83 rfl (by decide) ?_;(conv=>whnf)
 refine am rfl ?_
 conv=>whnf
 refine am rfl ?_
 conv=>whnf
 refine nI ?_
 conv=>whnf
 refine aE.loopF ab ac (fun k:Nat=>k<=c.correct.toNat/\∀j,j<k->c.states.getD j 0∈q.goal) (fun k=>[(13, .int .i64 (k:Int))]) (fun _=>[]) (fun k=>c.correct.toNat-k) 0 ⟨by omega,fun j hj=>by omega⟩ ?_;conv=>whnf
 refine⟨sI,?_⟩
 rintro k ⟨hk,ha⟩
 conv=>whnf
 refine ah ?_ ?_<;>(intro h1;conv=>whnf)
 ·refine nI ?_
  rw[tN]
  conv=>whnf
  refine dC (gm q.goal _ (by omega)) (fun _=>?_) (fun _=>?_)<;>(conv=>whnf)
  ·rename_i h2
   rw[mb (by omega)] at h2
   repeat' ((first|refine nI ?_|refine aI ?_|refine tI ?_|refine fI ?_|fail);conv=>whnf)
   refine⟨k+1,sI,⟨by omega,fun j hj=>?_⟩,by dsimp only;omega⟩
   by_cases e:j=k
   ·subst e;exact h2
   ·exact ha j (by omega)
  ·rename_i h2
   rw[mb (by omega)] at h2
   exact⟨aq (fun h=>h2 (h k (by omega))),rfl⟩
 ·exact⟨aN (fun j hj=>ha j (by omega)),rfl⟩
theorem xC (q:bn) (c:ap) (hq:¬eU q) (hw:bc c=false) (hc0:0<=c.correct/\c.correct<=c.states.length):ae Tryz.prog 23 [.agg (eh q), .agg (bg c)] (fun u=>u= .bool (decide (c8 q c))):=by
 have hlq:=kE hq
 have hc:=aL hw
 refine ae.intro ab ac Tryz.func23 rfl (by decide) ?_;(conv=>whnf)
 refine am rfl ?_
 conv=>whnf
 refine am rfl ?_
 conv=>whnf
 refine aE.loopF ab ac (fun k:Nat=>k<=c.correct.toNat/\∀j,j<k->c.states.getD j 0∈q.goal) (fun k=>[(5, .int .i64 (k:Int))]) (fun _=>[]) (fun k=>c.correct.toNat-k) 0 ⟨by omega,fun j hj=>by omega⟩ ?_;conv=>whnf
 refine⟨sI,?_⟩
 rintro k ⟨hk,ha⟩
 conv=>whnf
 refine ah ?_ ?_<;>(intro h1;conv=>whnf)
 ·refine dI ?_
  conv=>whnf
  refine nI ?_
  rw[tN]
  conv=>whnf
  refine dD (xA q.goal _ (by omega)) (fun _=>?_) (fun _=>?_)<;>(conv=>whnf)
  ·rename_i h2
   repeat' ((first|refine nI ?_|refine aI ?_|refine tI ?_|refine fI ?_|fail);conv=>whnf)
   refine⟨k+1,sI,⟨by omega,fun j hj=>?_⟩,by dsimp only;omega⟩
   by_cases e:j=k
   ·subst e;exact h2
   ·exact ha j (by omega)
  ·rename_i h2
   exact⟨aq (fun h=>h2 (h k (by omega))),rfl⟩
 ·exact⟨aN (fun j hj=>ha j (by omega)),rfl⟩
def ET (S L:List Int):Nat:=L.countP (fun x=>decide (x∈S))
theorem qb {l:List Int} {n:Int} (h:c7 l n=0):kX l n/\Cb l:=by
 unfold c7 at h
 by_cases h1:kX l n
 ·rw[if_pos h1] at h
  by_cases h2:Cb l
  ·exact⟨h1,h2⟩
  ·rw[if_neg h2] at h;omega
 ·rw[if_neg h1] at h;omega
theorem cm:∀{l:List Int},cF l=0->∀x∈l,x=0
 |[],_,x,hx=>by cases hx
 |a::l,h,x,hx=>by
  by_cases ha:a=0
  ·rw[bL ha] at h
   rcases List.mem_cons.1 hx with rfl|hx
   ·exact ha
   ·exact cm h x hx
  ·rw[cG ha] at h;omega
theorem EU {t:Int} {l:List Int} {n i:Nat} (hi:i<n):Ng t l n i=(rk t l n i,p7 t l n i,s2 t l n i):=by
 unfold Ng rk p7 s2
 rw[if_neg (by omega)]
 by_cases h2:t=2
 ·rw[if_pos h2,if_pos h2,if_pos h2,if_neg (show¬(t=4/\rj t l n=true) from fun h=>by have:=h.1;omega)]
  refine Prod.ext rfl (Prod.ext ?_ rfl)
  dsimp only
  split<;>split<;>omega
 ·rw[if_neg h2,if_neg h2,if_neg h2]
  by_cases h3:t=3
  ·rw[if_pos h3,if_pos h3,if_pos h3,if_neg (show¬(t=4/\rj t l n=true) from fun h=>by have:=h.1;omega)]
   refine Prod.ext ?_ (Prod.ext ?_ rfl)<;>dsimp only<;>split<;>split<;>omega
  ·rw[if_neg h3,if_neg h3,if_neg h3]
   have e:(t=4/\(l.length:Int)=n/\kO l)↔(t=4/\rj t l n=true):=by
    unfold rj
    rw[decide_eq_true_iff]
    constructor
    ·rintro⟨a,b,c⟩;exact⟨a,fun _=>⟨c,by omega⟩⟩
    ·rintro⟨a,b⟩;exact⟨a,by have:=(b a).2;omega,(b a).1⟩
   by_cases h4:t=4/\(l.length:Int)=n/\kO l
   ·rw[if_pos h4,if_pos (e.1 h4),if_pos (e.1 h4),if_pos (e.1 h4),tN]
   ·rw[if_neg h4,if_neg (fun h=>h4 (e.2 h)),if_neg (fun h=>h4 (e.2 h)),if_neg (fun h=>h4 (e.2 h))]
theorem I8 {t:Int} {l:List Int} {n i:Nat} (hi:i<n):rk t l n i<n/\p7 t l n i<n:=by
 unfold rk p7
 by_cases h2:t=2
 ·rw[if_pos h2,if_pos h2];constructor
  ·omega
  ·split<;>omega
 ·rw[if_neg h2,if_neg h2]
  by_cases h3:t=3
  ·rw[if_pos h3,if_pos h3];constructor<;>split<;>omega
  ·rw[if_neg h3,if_neg h3]
   by_cases h4:t=4/\rj t l n=true
   ·rw[if_pos h4,if_pos h4]
    obtain⟨h5,h6⟩:=h4
    unfold rj at h6
    rw[decide_eq_true_iff] at h6
    obtain⟨h7,h8⟩:=h6 h5
    unfold jA gA
    by_cases h9:l.getD i 0=2
    ·have:=h7.two (by omega) h9
     rw[if_pos h9,if_pos h9];constructor<;>omega
    ·rw[if_neg h9,if_neg h9];constructor<;>omega
   ·rw[if_neg h4,if_neg h4];constructor<;>omega
def I9 (c:ap) (x v:Int):Prop:=0<=x/\c.states.getD x.toNat 0=v
def OH (p:ao) (c:ap) (a b:Int) (i:Nat):Prop:=c.states.getD i 0=a/\(I9 c (p7 p.topology c.shape c.states.length i) b\/(p.topology=4/\I9 c (rk p.topology c.shape c.states.length i) b))
def Kj (p:ao) (c:ap) (l:List Int):Prop:=∃i,i<c.states.length/\OH p c (l.getD 0 0) (l.getD 1 0) i
noncomputable instance decAdj (p:ao) (c:ap) (l:List Int):Decidable (Kj p c l):=Classical.propDecidable _
end Go.Proofs.YtokjgegkhlkopaaGreatDoor
