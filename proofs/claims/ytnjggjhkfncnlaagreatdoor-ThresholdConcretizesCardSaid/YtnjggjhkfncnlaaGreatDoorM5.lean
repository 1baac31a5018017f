import Derived.Test.YtnjggjhkfncnlaaGreatDoorM4
set_option linter.unusedVariables false
set_option linter.unusedSimpArgs false
namespace Go.Proofs.YtnjggjhkfncnlaaGreatDoor
set_option maxRecDepth 100000
set_option maxHeartbeats 8000000
structure F6 where
 states:List Int
 least:Int
structure aV where
 name:ByteArray
 kind:Int
 start:List Int
 bad:List F6
 adjacent:List Int
 goal:List Int
def bP:F6:=⟨[],0⟩
def gz (c:F6):List AV:=[.sl 0 an c.states, .int .i64 c.least]
def fg (q:aV):List AV:=[.str q.name, .int .i64 q.kind, .sl 0 an q.start, .sl bP gz q.bad, .sl 0 an q.adjacent, .sl 0 an q.goal]
def wS (q:aV):Prop:=500<q.name.size\/60<q.start.length\/60<q.bad.length\/60<q.adjacent.length\/60<q.goal.length\/∃j,j<q.bad.length/\60<(q.bad.getD j bP).states.length
instance (q:aV):Decidable (wS q):=inferInstanceAs (Decidable (_\/_))
theorem sY {q:aV} (h:¬wS q):q.name.size<=500/\q.start.length<=60/\q.bad.length<=60/\q.adjacent.length<=60/\q.goal.length<=60:=by
 unfold wS at h
 omega
theorem BM {q:aV} (h:¬wS q):∀j,j<q.bad.length->(q.bad.getD j bP).states.length<=60:=fun j hj=>by
 have:¬(60<(q.bad.getD j bP).states.length):=fun h2=>h (.inr (.inr (.inr (.inr (.inr ⟨j,hj,h2⟩)))))
 omega
def qP (q:aV):Prop:=(q.name.size<=140737488355328/\q.start.length<=140737488355328/\q.bad.length<=140737488355328/\q.adjacent.length<=140737488355328/\q.goal.length<=140737488355328)/\∀j,j<q.bad.length->(q.bad.getD j bP).states.length<=140737488355328
theorem GY {q:aV} (h:¬wS q):qP q:=⟨by have:=sY h;omega,fun j hj=>by have:=BM h j hj;omega⟩
theorem sZ {q:aV} (h:qP q):q.name.size<=140737488355328/\q.start.length<=140737488355328/\q.bad.length<=140737488355328/\q.adjacent.length<=140737488355328/\q.goal.length<=140737488355328:=h.1
theorem oD {q:aV} (h:qP q):∀j,j<q.bad.length->(q.bad.getD j bP).states.length<=140737488355328:=h.2
theorem EP (l:List Int) (s:Int) (hl:l.length<=4503599627370496):ab Tryz.prog 71 [.sl 0 an l, .int .i64 s] (fun u=>∃n:Int,u= .int .i64 n/\(0<=n↔s∈l)):=by
 refine ab.intro ac ag Tryz.func71 rfl (by decide) ?_;(conv=>whnf)
 refine aH.loopF ac ag (fun k:Nat=>k<=l.length/\s∉l.take k) (fun k=>[(8, .int .i64 (k:Int))]) (fun _=>[]) (fun k=>l.length-k) 0 ⟨by omega,by simp⟩ ?_;conv=>whnf
 refine⟨sI,?_⟩
 rintro k ⟨hk,ha⟩
 conv=>whnf
 repeat' ((first|refine nI ?_|refine aI ?_|refine dz trivial (by omega) ?_|refine dV trivial (by omega) ?_|refine dI ?_|refine dR ?_|refine dP ?_|refine al rfl ?_|refine pI _ rfl ?_|refine ap _ rfl ?_|refine tI ?_|refine fI ?_|refine ah (fun _=>?_) (fun _=>?_))<;>conv=>whnf)
 ·rename_i h1 h2
  rw[tN] at h2
  refine⟨⟨k,rfl,fun _=>?_,fun _=>by omega⟩,rfl⟩
  rw[h2,gD,gL (by omega)]
  exact List.getElem_mem _
 ·rename_i h1 h2
  rw[tN] at h2
  refine⟨k+1,sI,⟨by omega,?_⟩,by dsimp only;omega⟩
  rw[List.take_succ_eq_append_getElem (by omega),List.mem_append,List.mem_singleton,not_or]
  refine⟨ha,?_⟩
  rw[gD,gL (by omega)] at h2
  exact h2
 ·obtain rfl:k=l.length:=by omega
  rw[List.take_length] at ha
  exact⟨⟨-1,rfl,fun h=>by omega,fun h=>absurd h ha⟩,rfl⟩
theorem bV (l:List Int) (s:Int) (hl:l.length<=4503599627370496):ab Tryz.prog 20 [.sl 0 an l, .int .i64 s] (fun u=>u= .bool (decide (s∈l))):=by
 refine ab.intro ac ag Tryz.func20 rfl (by decide) ?_;(conv=>whnf)
 refine ak.of_pure (n:=5) (EP l s hl) rfl ?_
 rintro _ ⟨n,rfl,hn⟩
 conv=>whnf
 refine ah ?_ ?_<;>(intro h;conv=>whnf)
 ·exact⟨az (hn.1 h),rfl⟩
 ·exact⟨aq (fun hh=>h (hn.2 hh)),rfl⟩
theorem zy (l:List Int) (s:Int) (hl:l.length<=4503599627370496):ab Tryz.prog 145 [.sl 0 an l, .int .i64 s] (fun u=>u= .bool (decide (s∈l))):=by
 refine ab.intro ac ag Tryz.func145 rfl (by decide) ?_;(conv=>whnf)
 refine aH.loopF ac ag (fun k:Nat=>k<=l.length/\s∉l.take k) (fun k=>[(5, .int .i64 (k:Int))]) (fun _=>[]) (fun k=>l.length-k) 0 ⟨by omega,by simp⟩ ?_;conv=>whnf
 refine⟨sI,?_⟩
 rintro k ⟨hk,ha⟩
 conv=>whnf
 repeat' ((first|refine nI ?_|refine aI ?_|refine dz trivial (by omega) ?_|refine dV trivial (by omega) ?_|refine dI ?_|refine dR ?_|refine dP ?_|refine al rfl ?_|refine pI _ rfl ?_|refine ap _ rfl ?_|refine tI ?_|refine fI ?_|refine ah (fun _=>?_) (fun _=>?_))<;>conv=>whnf)
 ·rename_i h1 h2
  rw[tN] at h2
  refine⟨az ?_,rfl⟩
  rw[<-h2,gD,gL (by omega)]
  exact List.getElem_mem _
 ·rename_i h1 h2
  rw[tN] at h2
  refine⟨k+1,sI,⟨by omega,?_⟩,by dsimp only;omega⟩
  rw[List.take_succ_eq_append_getElem (by omega),List.mem_append,List.mem_singleton,not_or]
  refine⟨ha,fun e=>h2 ?_⟩
  rw[gD,gL (by omega)]
  exact e.symm
 ·obtain rfl:k=l.length:=by omega
  rw[List.take_length] at ha
  exact⟨aq ha,rfl⟩
def zB (n:Int) (c:F6):Int:=cz [bQ c.states n,(if c.states.length=0\/c.least<1\/3<c.least then 1 else 0)]
def od (n:Int) (l:List F6):Int:=cz (l.map (zB n))
def nw (p:au) (l:List Int):Int:=if l.length=0 then 0 else if p.topology=1 then 6 else if l.length≠2 then 1 else cz [cL (l.getD 0 0) p.states.length,cL (l.getD 1 0) p.states.length]
def aZ (p:au) (q:aV):Int:=
 if aB p≠0 then aB p else if¬cx q.name then 2 else if q.kind≠1/\q.kind≠2 then 1
 else if(q.kind=1/\0<q.goal.length)\/(q.kind=2/\(0<q.bad.length\/0<q.adjacent.length)) then 1
 else if bQ q.start p.states.length≠0 then bQ q.start p.states.length
 else if¬(∀j,j<q.start.length->q.start.getD j 0∈p.initial) then 5
 else if q.kind=2 then cz [bQ q.goal p.states.length,(if q.goal.length=0 then 1 else 0)]
 else cz [(if q.bad.length=0/\q.adjacent.length=0 then 1 else 0),(if 3<q.bad.length then 4 else 0),od p.states.length q.bad,nw p q.adjacent]
theorem pT (l:List F6) (n:Int) (hl:l.length<=4503599627370496) (hs:∀j,j<l.length->(l.getD j bP).states.length<=140737488355328):ab Tryz.prog 136 [.sl bP gz l, .int .i64 n] (fun u=>u= .int .i64 (od n l)):=by
 refine ab.intro ac ag Tryz.func136 rfl (by decide) ?_;(conv=>whnf)
 refine aH.loopF ac ag (fun k:Nat=>k<=l.length/\od n l=cz ((l.drop k).map (zB n))) (fun k=>[(10, .int .i64 (k:Int))]) (fun _=>[]) (fun k=>l.length-k) 0 ⟨by omega,rfl⟩ ?_;conv=>whnf
 refine⟨sI,?_⟩
 rintro k ⟨hk,he⟩
 conv=>whnf
 refine ah ?_ ?_<;>(intro h1;conv=>whnf)
 ·rw[cf _ bP (by omega)] at he
  have hlen:=hs k (by omega)
  refine nI ?_
  rw[tN]
  generalize l.getD k bP=g at he hlen
  conv=>whnf
  refine dI ?_
  conv=>whnf
  (refine oC (lM g.states n (by omega)) ?_;conv=>whnf)
  have fin:∀c:Int,c=(if g.states.length=0\/g.least<1\/3<g.least then 1 else 0)->cz [bQ g.states n,c]=zB n g:=by rintro c rfl;rfl
  by_cases hc:g.states.length=0\/g.least<1\/3<g.least
  ·have ec:=fin 1 (by rw[if_pos hc])
   repeat' ((first|refine nI ?_|refine aI ?_|refine dz trivial (by omega) ?_|refine dV trivial (by omega) ?_|refine dI ?_|refine dR ?_|refine dP ?_|refine al rfl ?_|refine pI _ rfl ?_|refine ap _ rfl ?_|refine tI ?_|refine fI ?_|refine ah (fun _=>?_) (fun _=>?_))<;>conv=>whnf)
   all_goals
    (refine oC (iH 1) ?_;conv=>whnf)
    refine dE ?_
    conv=>whnf
    (refine oC (cI _ (by simp)) ?_;conv=>whnf)
    rw[ec]
    refine ah ?_ ?_<;>(intro h2;conv=>whnf)
    ·rw[if_pos h2] at he
     exact⟨ae he.symm,rfl⟩
    ·rw[if_neg h2] at he
     repeat' ((first|refine nI ?_|refine aI ?_|refine dz trivial (by omega) ?_|refine dV trivial (by omega) ?_|refine dI ?_|refine dR ?_|refine dP ?_|refine al rfl ?_|refine pI _ rfl ?_|refine ap _ rfl ?_|refine tI ?_|refine fI ?_|refine ah (fun _=>?_) (fun _=>?_))<;>conv=>whnf)
     exact⟨k+1,sI,⟨by omega,he⟩,by dsimp only;omega⟩
  ·have ec:=fin 0 (by rw[if_neg hc])
   repeat' ((first|refine nI ?_|refine aI ?_|refine tI ?_|refine fI ?_|fail);conv=>whnf)
   (refine oC (gH 1) ?_;conv=>whnf)
   refine dE ?_
   conv=>whnf
   (refine oC (cI _ (by simp)) ?_;conv=>whnf)
   rw[ec]
   refine ah ?_ ?_<;>(intro h2;conv=>whnf)
   ·rw[if_pos h2] at he
    exact⟨ae he.symm,rfl⟩
   ·rw[if_neg h2] at he
    repeat' ((first|refine nI ?_|refine aI ?_|refine dz trivial (by omega) ?_|refine dV trivial (by omega) ?_|refine dI ?_|refine dR ?_|refine dP ?_|refine al rfl ?_|refine pI _ rfl ?_|refine ap _ rfl ?_|refine tI ?_|refine fI ?_|refine ah (fun _=>?_) (fun _=>?_))<;>conv=>whnf)
    exact⟨k+1,sI,⟨by omega,he⟩,by dsimp only;omega⟩
 ·rw[List.drop_of_length_le (by omega)] at he
  exact⟨ae he.symm,rfl⟩
theorem BN (p:au) (l:List Int):ab Tryz.prog 137 [.agg (aO p), .sl 0 an l] (fun u=>u= .int .i64 (nw p l)):=by
 have he:=nw.eq_1 p l
 refine ab.intro ac ag Tryz.func137 rfl (by decide) ?_;(conv=>whnf)
 refine al rfl ?_
 conv=>whnf
 refine ah ?_ ?_<;>(intro h1;conv=>whnf)
 ·rw[if_pos (by omega)] at he;exact⟨ae he.symm,rfl⟩
 rw[if_neg (by omega)] at he
 refine ah ?_ ?_<;>(intro h2;conv=>whnf)
 ·rw[if_pos h2] at he;exact⟨ae he.symm,rfl⟩
 rw[if_neg h2] at he
 refine ah ?_ ?_<;>(intro h3;conv=>whnf)
 ·rw[if_pos (by omega)] at he;exact⟨ae he.symm,rfl⟩
 rw[if_neg (by omega)] at he
 refine dI ?_
 conv=>whnf
 refine nI ?_
 conv=>whnf
 (refine oC (gx _ _) ?_;conv=>whnf)
 refine nI ?_
 conv=>whnf
 (refine oC (gx _ _) ?_;conv=>whnf)
 refine dE ?_
 conv=>whnf
 (refine oC (cI _ (by simp)) ?_;conv=>whnf)
 exact⟨ae he.symm,rfl⟩
theorem rJ (p:au) (q:aV) (hp:gM p) (hq:qP q):ab Tryz.prog 64 [.agg (aO p), .agg (fg q)] (fun u=>u= .int .i64 (aZ p q)):=by
 have hle:=iT hp
 have hlq:=sZ hq
 have he:=aZ.eq_1 p q
 refine ab.intro ac ag Tryz.func64 rfl (by decide) ?_;(conv=>whnf)
 refine al rfl ?_
 conv=>whnf
 refine al rfl ?_
 conv=>whnf
 (refine oP (fo p hp) ?_;conv=>whnf)
 refine ah ?_ ?_<;>(intro h1;conv=>whnf)
 ·rw[if_pos h1] at he;exact⟨ae he.symm,rfl⟩
 rw[if_neg h1] at he
 refine ah ?_ ?_<;>(intro hk;conv=>whnf)
 all_goals
  refine dC (fd q.name (by omega)) (fun _=>?_) (fun _=>?_)<;>(conv=>whnf)
  case refine_2=>rename_i hv;rw[if_pos hv] at he;exact⟨ae he.symm,rfl⟩
  rename_i hv
  rw[if_neg (fun h=>h hv)] at he
  by_cases hA:q.kind≠1/\q.kind≠2
  ·rw[if_pos hA] at he
   repeat' ((first|refine nI ?_|refine aI ?_|refine dz trivial (by omega) ?_|refine dV trivial (by omega) ?_|refine dI ?_|refine dR ?_|refine dP ?_|refine al rfl ?_|refine pI _ rfl ?_|refine ap _ rfl ?_|refine tI ?_|refine fI ?_|refine ah (fun _=>?_) (fun _=>?_))<;>conv=>whnf)
   all_goals exact⟨ae he.symm,rfl⟩
  rw[if_neg hA] at he
  by_cases hB:(q.kind=1/\0<q.goal.length)\/(q.kind=2/\(0<q.bad.length\/0<q.adjacent.length))
  ·rw[if_pos hB] at he
   repeat' ((first|refine nI ?_|refine aI ?_|refine dz trivial (by omega) ?_|refine dV trivial (by omega) ?_|refine dI ?_|refine dR ?_|refine dP ?_|refine al rfl ?_|refine pI _ rfl ?_|refine ap _ rfl ?_|refine tI ?_|refine fI ?_|refine ah (fun _=>?_) (fun _=>?_))<;>conv=>whnf)
   all_goals exact⟨ae he.symm,rfl⟩
  rw[if_neg hB] at he
  repeat' ((first|refine nI ?_|refine aI ?_|refine tI ?_|refine fI ?_|fail);conv=>whnf)
  (refine oP (lM q.start _ (by omega)) ?_;conv=>whnf)
  refine ah ?_ ?_<;>(intro h2;conv=>whnf)
  ·rw[if_pos h2] at he;exact⟨ae he.symm,rfl⟩
  rw[if_neg h2] at he
  refine aH.loopF ac ag (fun k:Nat=>k<=q.start.length/\∀j,j<k->q.start.getD j 0∈p.initial) (fun k=>[(67, .int .i64 (k:Int))]) (fun _=>[]) (fun k=>q.start.length-k) 0 ⟨by omega,fun j hj=>by omega⟩ ?_;conv=>whnf
  refine⟨sI,?_⟩
  rintro k ⟨hk',ha⟩
  conv=>whnf
  refine ah ?_ ?_<;>(intro h3;conv=>whnf)
  ·refine nI ?_
   rw[tN]
   conv=>whnf
   refine dC (bV p.initial _ (by omega)) (fun _=>?_) (fun _=>?_)<;>(conv=>whnf)
   ·rename_i hm
    repeat' ((first|refine nI ?_|refine aI ?_|refine tI ?_|refine fI ?_|fail);conv=>whnf)
    refine⟨k+1,sI,⟨by omega,fun j hj=>?_⟩,by dsimp only;omega⟩
    by_cases e:j=k
    ·subst e;exact hm
    ·exact ha j (by omega)
   ·rename_i hm
    rw[if_pos (fun h=>hm (h k (by omega)))] at he
    exact⟨ae he.symm,rfl⟩
  rw[if_neg (fun h=>h (fun j hj=>ha j (by omega)))] at he
  refine dI ?_
  conv=>whnf
 ·rw[if_neg (by omega)] at he
  have fin:∀a b:Int,a=(if q.bad.length=0/\q.adjacent.length=0 then 1 else 0)->b=(if 3<q.bad.length then 4 else 0)->aZ p q=cz [a,b,od p.states.length q.bad,nw p q.adjacent]:=by rintro a b rfl rfl;exact he
  by_cases hC:q.bad.length=0/\q.adjacent.length=0
  ·have f1:=fin 1 0 (by rw[if_pos hC]) (by rw[if_neg (by omega)])
   repeat' ((first|refine nI ?_|refine aI ?_|refine tI ?_|refine fI ?_|fail);conv=>whnf)
   (refine oC (iH 1) ?_;conv=>whnf)
   repeat' ((first|refine nI ?_|refine aI ?_|refine tI ?_|refine fI ?_|fail);conv=>whnf)
   (refine oC (gH 4) ?_;conv=>whnf)
   (refine oC (pT q.bad _ (by omega) (oD hq)) ?_;conv=>whnf)
   (refine oC (BN p q.adjacent) ?_;conv=>whnf)
   refine dE ?_
   conv=>whnf
   (refine oC (cI _ (by simp)) ?_;conv=>whnf)
   exact⟨ae f1.symm,rfl⟩
  ·by_cases hD:3<q.bad.length
   ·have f1:=fin 0 4 (by rw[if_neg hC]) (by rw[if_pos hD])
    repeat' ((first|refine nI ?_|refine aI ?_|refine dz trivial (by omega) ?_|refine dV trivial (by omega) ?_|refine dI ?_|refine dR ?_|refine dP ?_|refine al rfl ?_|refine pI _ rfl ?_|refine ap _ rfl ?_|refine tI ?_|refine fI ?_|refine ah (fun _=>?_) (fun _=>?_))<;>conv=>whnf)
    all_goals
     (refine oC (gH 1) ?_;conv=>whnf)
     repeat' ((first|refine nI ?_|refine aI ?_|refine tI ?_|refine fI ?_|fail);conv=>whnf)
     (refine oC (iH 4) ?_;conv=>whnf)
     (refine oC (pT q.bad _ (by omega) (oD hq)) ?_;conv=>whnf)
     (refine oC (BN p q.adjacent) ?_;conv=>whnf)
     refine dE ?_
     conv=>whnf
     (refine oC (cI _ (by simp)) ?_;conv=>whnf)
     exact⟨ae f1.symm,rfl⟩
   ·have f1:=fin 0 0 (by rw[if_neg hC]) (by rw[if_neg hD])
    repeat' ((first|refine nI ?_|refine aI ?_|refine dz trivial (by omega) ?_|refine dV trivial (by omega) ?_|refine dI ?_|refine dR ?_|refine dP ?_|refine al rfl ?_|refine pI _ rfl ?_|refine ap _ rfl ?_|refine tI ?_|refine fI ?_|refine ah (fun _=>?_) (fun _=>?_))<;>conv=>whnf)
    all_goals
     (refine oC (gH 1) ?_;conv=>whnf)
     repeat' ((first|refine nI ?_|refine aI ?_|refine tI ?_|refine fI ?_|fail);conv=>whnf)
     (refine oC (gH 4) ?_;conv=>whnf)
     (refine oC (pT q.bad _ (by omega) (oD hq)) ?_;conv=>whnf)
     (refine oC (BN p q.adjacent) ?_;conv=>whnf)
     refine dE ?_
     conv=>whnf
     (refine oC (cI _ (by simp)) ?_;conv=>whnf)
     exact⟨ae f1.symm,rfl⟩
 ·rw[if_pos (by omega)] at he
  (refine oC (lM q.goal _ (by omega)) ?_;conv=>whnf)
  by_cases hC:q.goal.length=0
  ·rw[if_pos hC] at he
   repeat' ((first|refine nI ?_|refine aI ?_|refine tI ?_|refine fI ?_|fail);conv=>whnf)
   (refine oC (iH 1) ?_;conv=>whnf)
   refine dE ?_
   conv=>whnf
   (refine oC (cI _ (by simp)) ?_;conv=>whnf)
   exact⟨ae he.symm,rfl⟩
  ·rw[if_neg hC] at he
   repeat' ((first|refine nI ?_|refine aI ?_|refine tI ?_|refine fI ?_|fail);conv=>whnf)
   (refine oC (gH 1) ?_;conv=>whnf)
   refine dE ?_
   conv=>whnf
   (refine oC (cI _ (by simp)) ?_;conv=>whnf)
   exact⟨ae he.symm,rfl⟩
theorem rK (p:au) (q:aV) (hp:gM p) (hq:qP q):ab Tryz.prog 73 [.agg (aO p), .agg (fg q)] (fun u=>u= .int .i64 (aZ p q)):=by
 have hle:=iT hp
 have hlq:=sZ hq
 have he:=aZ.eq_1 p q
 refine ab.intro ac ag Tryz.func73 rfl (by decide) ?_;(conv=>whnf)
 refine al rfl ?_
 conv=>whnf
 refine al rfl ?_
 conv=>whnf
 (refine oP (fY p hp) ?_;conv=>whnf)
 refine ah ?_ ?_<;>(intro h1;conv=>whnf)
 ·rw[if_pos h1] at he;exact⟨ae he.symm,rfl⟩
 rw[if_neg h1] at he
 refine dC (jD q.name (by omega)) (fun _=>?_) (fun _=>?_)<;>(conv=>whnf)
 case refine_2=>rename_i hv;rw[if_pos hv] at he;exact⟨ae he.symm,rfl⟩
 rename_i hv
 rw[if_neg (fun h=>h hv)] at he
 by_cases hA:q.kind≠1/\q.kind≠2
 ·rw[if_pos hA] at he
  repeat' ((first|refine nI ?_|refine aI ?_|refine dz trivial (by omega) ?_|refine dV trivial (by omega) ?_|refine dI ?_|refine dR ?_|refine dP ?_|refine al rfl ?_|refine pI _ rfl ?_|refine ap _ rfl ?_|refine tI ?_|refine fI ?_|refine ah (fun _=>?_) (fun _=>?_))<;>conv=>whnf)
  all_goals exact⟨ae he.symm,rfl⟩
 rw[if_neg hA] at he
 by_cases hB:(q.kind=1/\0<q.goal.length)\/(q.kind=2/\(0<q.bad.length\/0<q.adjacent.length))
 ·rw[if_pos hB] at he
  repeat' ((first|refine nI ?_|refine aI ?_|refine dz trivial (by omega) ?_|refine dV trivial (by omega) ?_|refine dI ?_|refine dR ?_|refine dP ?_|refine al rfl ?_|refine pI _ rfl ?_|refine ap _ rfl ?_|refine tI ?_|refine fI ?_|refine ah (fun _=>?_) (fun _=>?_))<;>conv=>whnf)
  all_goals exact⟨ae he.symm,rfl⟩
 rw[if_neg hB] at he
 have hk12:q.kind=1\/q.kind=2:=by omega
 rcases hk12 with hk|hk
 all_goals
  repeat' ((first|refine nI ?_|refine aI ?_|refine tI ?_|refine fI ?_|fail);conv=>whnf)
  (refine oP (bk q.start _ (by omega) (by omega)) ?_;conv=>whnf)
  refine ah ?_ ?_<;>(intro h2;conv=>whnf)
  ·rw[if_pos h2] at he;exact⟨ae he.symm,rfl⟩
  rw[if_neg h2] at he
  refine aH.loopF ac ag (fun k:Nat=>k<=q.start.length/\∀j,j<k->q.start.getD j 0∈p.initial) (fun k=>[(8, .int .i64 (k:Int))]) (fun _=>[]) (fun k=>q.start.length-k) 0 ⟨by omega,fun j hj=>by omega⟩ ?_;conv=>whnf
  refine⟨sI,?_⟩
  rintro k ⟨hk',ha⟩
  conv=>whnf
  refine ah ?_ ?_<;>(intro h3;conv=>whnf)
  ·refine dI ?_
   conv=>whnf
   refine nI ?_
   rw[tN]
   conv=>whnf
   refine dD (zy p.initial _ (by omega)) (fun _=>?_) (fun _=>?_)<;>(conv=>whnf)
   ·rename_i hm
    repeat' ((first|refine nI ?_|refine aI ?_|refine tI ?_|refine fI ?_|fail);conv=>whnf)
    refine⟨k+1,sI,⟨by omega,fun j hj=>?_⟩,by dsimp only;omega⟩
    by_cases e:j=k
    ·subst e;exact hm
    ·exact ha j (by omega)
   ·rename_i hm
    rw[if_pos (fun h=>hm (h k (by omega)))] at he
    exact⟨ae he.symm,rfl⟩
  rw[if_neg (fun h=>h (fun j hj=>ha j (by omega)))] at he
  repeat' ((first|refine nI ?_|refine aI ?_|refine tI ?_|refine fI ?_|fail);conv=>whnf)
 ·rw[if_neg (by omega)] at he
  by_cases hC:q.bad.length=0/\q.adjacent.length=0
  ·rw[if_pos hC] at he
   repeat' ((first|refine nI ?_|refine aI ?_|refine tI ?_|refine fI ?_|fail);conv=>whnf)
   exact⟨ae he.symm,rfl⟩
  rw[if_neg hC] at he
  have he:aZ p q=cz [(if 3<q.bad.length then 4 else 0),od p.states.length q.bad,nw p q.adjacent]:=he
  by_cases hD:3<q.bad.length
  ·rw[if_pos hD] at he
   repeat' ((first|refine nI ?_|refine aI ?_|refine dz trivial (by omega) ?_|refine dV trivial (by omega) ?_|refine dI ?_|refine dR ?_|refine dP ?_|refine al rfl ?_|refine pI _ rfl ?_|refine ap _ rfl ?_|refine tI ?_|refine fI ?_|refine ah (fun _=>?_) (fun _=>?_))<;>conv=>whnf)
   all_goals exact⟨ae he.symm,rfl⟩
  rw[if_neg hD] at he
  have he:aZ p q=cz [od p.states.length q.bad,nw p q.adjacent]:=he
  repeat' ((first|refine nI ?_|refine aI ?_|refine dz trivial (by omega) ?_|refine dV trivial (by omega) ?_|refine dI ?_|refine dR ?_|refine dP ?_|refine al rfl ?_|refine pI _ rfl ?_|refine ap _ rfl ?_|refine tI ?_|refine fI ?_|refine ah (fun _=>?_) (fun _=>?_))<;>conv=>whnf)
  all_goals
   refine aH.loopF ac ag (fun k:Nat=>k<=q.bad.length/\od p.states.length q.bad=cz ((q.bad.drop k).map (zB p.states.length))) (fun k=>[(10, .int .i64 (k:Int))]) (fun _=>[]) (fun k=>q.bad.length-k) 0 ⟨by omega,rfl⟩ ?_;conv=>whnf
   refine⟨sI,?_⟩
   rintro k ⟨hk',hr⟩
   conv=>whnf
   refine ah ?_ ?_<;>(intro h3;conv=>whnf)
   ·first
    |(exfalso;omega)
    |rw[cf _ bP (by omega)] at hr
     have hlen:=oD hq k (by omega)
     refine nI ?_
     rw[tN]
     conv=>whnf
     (refine oP (bk (q.bad.getD k bP).states _ (by omega) (by omega)) ?_;conv=>whnf)
     have hg:=zB.eq_1 p.states.length (q.bad.getD k bP)
     refine ah ?_ ?_<;>(intro h4;conv=>whnf)
     ·rw[aw h4] at hg
      rw[hg,if_pos h4] at hr
      rw[hr,aw h4] at he
      exact⟨ae he.symm,rfl⟩
     refine nI ?_
     rw[tN]
     conv=>whnf
     rw[av (by omega)] at hg
     by_cases hc:(q.bad.getD k bP).states.length=0\/(q.bad.getD k bP).least<1\/3<(q.bad.getD k bP).least
     ·rw[if_pos hc] at hg
      rw[hg] at hr
      rw[hr] at he
      by_cases hz:(q.bad.getD k bP).states.length=0
      ·repeat' ((first|refine nI ?_|refine aI ?_|refine tI ?_|refine fI ?_|fail);conv=>whnf)
       exact⟨ae he.symm,rfl⟩
      ·repeat' ((first|refine nI ?_|refine aI ?_|refine tI ?_|refine fI ?_|fail);conv=>whnf)
       refine dC (ax _ _ _) (fun _=>?_) (fun _=>?_)<;>(conv=>whnf)
       ·rename_i h;rw[tN] at h;omega
       ·exact⟨ae he.symm,rfl⟩
     ·rw[if_neg hc] at hg
      rw[hg] at hr
      repeat' ((first|refine nI ?_|refine aI ?_|refine tI ?_|refine fI ?_|fail);conv=>whnf)
      refine dC (ax _ _ _) (fun _=>?_) (fun _=>?_)<;>(conv=>whnf)
      ·repeat' ((first|refine nI ?_|refine aI ?_|refine tI ?_|refine fI ?_|fail);conv=>whnf)
       exact⟨k+1,sI,⟨by omega,hr⟩,by dsimp only;omega⟩
      ·rename_i h;rw[tN] at h;omega
   rw[List.drop_of_length_le (by omega)] at hr
   rw[av hr] at he
   have he:aZ p q=(if nw p q.adjacent≠0 then nw p q.adjacent else 0):=he
   have ha':=nw.eq_1 p q.adjacent
   by_cases h0:q.adjacent.length=0
   ·rw[if_pos h0] at ha'
    rw[ha'] at he
    first
    |(exfalso;omega)
    |skip
     repeat' ((first|refine nI ?_|refine aI ?_|refine tI ?_|refine fI ?_|fail);conv=>whnf)
     refine aH.loopF ac ag (fun i:Nat=>i=0) (fun i=>[(12, .int .i64 (i:Int))]) (fun _=>[]) (fun _=>0) 0 rfl ?_;conv=>whnf
     refine⟨sI,?_⟩
     rintro i rfl
     conv=>whnf
     repeat' ((first|refine nI ?_|refine aI ?_|refine tI ?_|refine fI ?_|fail);conv=>whnf)
     exact⟨ae he.symm,rfl⟩
   rw[if_neg h0] at ha'
   by_cases ht:p.topology=1
   ·rw[if_pos ht] at ha'
    rw[ha'] at he
    repeat' ((first|refine nI ?_|refine aI ?_|refine tI ?_|refine fI ?_|fail);conv=>whnf)
    exact⟨ae he.symm,rfl⟩
   rw[if_neg ht] at ha'
   by_cases h2':q.adjacent.length≠2
   ·rw[if_pos h2'] at ha'
    rw[ha'] at he
    repeat' ((first|refine nI ?_|refine aI ?_|refine tI ?_|refine fI ?_|fail);conv=>whnf)
    exact⟨ae he.symm,rfl⟩
   rw[if_neg h2'] at ha'
   repeat' ((first|refine nI ?_|refine aI ?_|refine tI ?_|refine fI ?_|fail);conv=>whnf)
   refine aH.loopF ac ag (fun i:Nat=>i<=2/\∀j,j<i->0<=q.adjacent.getD j 0/\q.adjacent.getD j 0<p.states.length) (fun i=>[(12, .int .i64 (i:Int))]) (fun _=>[]) (fun i=>2-i) 0 ⟨by omega,fun j hj=>by omega⟩ ?_;conv=>whnf
   refine⟨sI,?_⟩
   rintro i ⟨hi,hin⟩
   conv=>whnf
   refine ah ?_ ?_<;>(intro h5;conv=>whnf)
   ·refine nI ?_
    rw[tN]
    conv=>whnf
    repeat' ((first|refine nI ?_|refine aI ?_|refine tI ?_|refine fI ?_|fail);conv=>whnf)
    refine dC (ax _ _ _) (fun _=>?_) (fun _=>?_)<;>(conv=>whnf)
    ·rename_i h6
     repeat' ((first|refine nI ?_|refine aI ?_|refine tI ?_|refine fI ?_|fail);conv=>whnf)
     refine⟨i+1,sI,⟨by omega,fun j hj=>?_⟩,by dsimp only;omega⟩
     by_cases e:j=i
     ·subst e;omega
     ·exact hin j (by omega)
    ·rename_i h6
     have h7:nw p q.adjacent=5:=by
      rw[ha']
      have hi2:i=0\/i=1:=by omega
      rcases hi2 with rfl|rfl
      ·rw[aw (by rw[cL,if_pos (by omega)];decide),cL,if_pos (by omega)]
      ·have:=hin 0 (by omega)
       rw[av (by rw[cL,if_neg (by omega)]),aw (by rw[cL,if_pos (by omega)];decide),cL,if_pos (by omega)]
     rw[h7] at he
     exact⟨ae he.symm,rfl⟩
   ·have h7:nw p q.adjacent=0:=by
     rw[ha']
     have a0:=hin 0 (by omega)
     have a1:=hin 1 (by omega)
     rw[av (by rw[cL,if_neg (by omega)]),av (by rw[cL,if_neg (by omega)])];rfl
    rw[h7] at he
    exact⟨ae he.symm,rfl⟩
 ·rw[if_pos (by omega)] at he
  (refine oP (bk q.goal _ (by omega) (by omega)) ?_;conv=>whnf)
  refine ah ?_ ?_<;>(intro h4;conv=>whnf)
  ·rw[aw h4] at he;exact⟨ae he.symm,rfl⟩
  rw[av (by omega)] at he
  by_cases h5:q.goal.length=0
  ·rw[if_pos h5] at he
   repeat' ((first|refine nI ?_|refine aI ?_|refine tI ?_|refine fI ?_|fail);conv=>whnf)
   exact⟨ae he.symm,rfl⟩
  ·rw[if_neg h5] at he
   repeat' ((first|refine nI ?_|refine aI ?_|refine tI ?_|refine fI ?_|fail);conv=>whnf)
   exact⟨ae he.symm,rfl⟩
theorem GZ (l:List Int) (a:Int) (i:Nat) (ha:a=i) (h:shp l) (hi:i<l.length) (hl:l.length<=1000):ab Tryz.prog 236 [.sl 0 an l, .int .i64 a] (fun u=>u= .int .i64 (bo l i:Int)):=by
 subst ha
 have hat:=h.at hi
 refine ab.intro ac ag Tryz.func236 rfl (by decide) ?_;(conv=>whnf)
 refine aH.loopF ac ag (fun x:Nat×Nat=>x.2<=l.length/\x.1<=x.2+1/\bR x.1 (l.drop x.2)=some (l.drop (bo l i))) (fun x=>[(5, .int .i64 (x.1:Int)),(1, .int .i64 (x.2:Int))]) (fun _=>[]) (fun x=>l.length-x.2) (1,i) ⟨by dsimp only;omega,by dsimp only;omega,hat.1⟩ ?_;conv=>whnf
 refine⟨sI,?_⟩
 rintro x ⟨h1,h2,h3⟩
 conv=>whnf
 refine ah ?_ ?_<;>(intro h4;conv=>whnf)
 ·obtain⟨d,hd⟩:∃d,x.1=d+1:=⟨x.1-1,by omega⟩
  rw[hd] at h3
  have hj:x.2<l.length:=by
   by_cases hj:x.2<l.length
   ·exact hj
   ·rw[List.drop_of_length_le (by omega),fU] at h3;cases h3
  rw[fW hj,cE] at h3
  refine nI ?_
  rw[tN]
  conv=>whnf
  by_cases h0:l.getD x.2 0=0
  ·rw[if_pos h0] at h3
   repeat' ((first|refine nI ?_|refine aI ?_|refine tI ?_|refine fI ?_|fail);conv=>whnf)
   exact⟨(d,x.2+1),sI,⟨by dsimp only;omega,by dsimp only;omega,h3⟩,by dsimp only;omega⟩
  ·rw[if_neg h0] at h3
   by_cases h5:l.getD x.2 0=2
   ·rw[if_pos h5] at h3
    repeat' ((first|refine nI ?_|refine aI ?_|refine tI ?_|refine fI ?_|fail);conv=>whnf)
    exact⟨(d+2,x.2+1),sI,⟨by dsimp only;omega,by dsimp only;omega,h3⟩,by dsimp only;omega⟩
   ·rw[if_neg h5] at h3;cases h3
 ·have h6:x.1=0:=by omega
  rw[h6,fc,Option.some.injEq] at h3
  have h5:=congrArg List.length h3
  simp only[List.length_drop] at h5
  exact⟨ae (by omega),rfl⟩
theorem yd {l:List Int} {j k:Nat} (h:l.getD k 0=2) (h2:k+1=j):c0 l j k=true:=by unfold c0;rw[decide_eq_true h,decide_eq_true h2];rfl
theorem ye {l:List Int} {j k:Nat} (h:l.getD k 0=2) (h2:bo l (k+1)=j):c0 l j k=true:=by unfold c0;rw[decide_eq_true h,decide_eq_true h2];cases decide (k+1=j)<;>rfl
theorem yf {l:List Int} {j k:Nat} (h:¬k+1=j) (h2:¬bo l (k+1)=j):c0 l j k=false:=by unfold c0;rw[decide_eq_false h,decide_eq_false h2];cases decide (l.getD k 0=2)<;>rfl
theorem yg {l:List Int} {j k:Nat} (h:¬l.getD k 0=2):c0 l j k=false:=by unfold c0;rw[decide_eq_false h];rfl
theorem wU (t:Int) (l:List Int) (n i:Nat) (hl:l.length<=1000) (hn:n<=1000) (hi:i<n):ab Tryz.prog 219 [.int .i64 t, .sl 0 an l, .int .i64 (n:Int), .int .i64 (i:Int)] (fun u=>u=IY (JS t l n i)):=by
 have he:=JS.eq_1 t l n i
 rw[if_neg (by omega)] at he
 refine ab.intro ac ag Tryz.func219 rfl (by decide) ?_;(conv=>whnf)
 repeat' ((first|refine nI ?_|refine aI ?_|refine tI ?_|refine fI ?_|fail);conv=>whnf)
 refine dC (gf _ _ _) (fun _=>?_) (fun _=>?_)<;>(conv=>whnf)
 case refine_2=>rename_i h;omega
 refine ah ?_ ?_<;>(intro h3;conv=>whnf)
 ·rw[if_neg (by omega),if_pos h3] at he
  have hm:((i:Int)+1).tmod n=if(i:Int)+1=n then 0 else(i:Int)+1:=by
   by_cases h:(i:Int)+1=n
   ·rw[if_pos h,h,Int.tmod_self]
   ·rw[if_neg h,Int.tmod_eq_of_lt (by omega) (by omega)]
  by_cases hz:i=0
  ·rw[if_pos (by omega)] at he
   repeat' ((first|refine nI ?_|refine aI ?_|refine tI ?_|refine fI ?_|fail);conv=>whnf)
   refine dI ?_
   conv=>whnf
   repeat' ((first|refine nI ?_|refine aI ?_|refine tI ?_|refine fI ?_|fail);conv=>whnf)
   exact⟨iE (by rw[he,hm]),rfl⟩
  ·rw[if_neg (by omega)] at he
   repeat' ((first|refine nI ?_|refine aI ?_|refine tI ?_|refine fI ?_|fail);conv=>whnf)
   refine dI ?_
   conv=>whnf
   repeat' ((first|refine nI ?_|refine aI ?_|refine tI ?_|refine fI ?_|fail);conv=>whnf)
   exact⟨iE (by rw[he,hm]),rfl⟩
 refine ah ?_ ?_<;>(intro h2;conv=>whnf)
 ·rw[if_pos h2] at he
  by_cases hz:(i:Int)+1=n
  ·rw[if_pos hz] at he
   repeat' ((first|refine nI ?_|refine aI ?_|refine tI ?_|refine fI ?_|fail);conv=>whnf)
   exact⟨iE he,rfl⟩
  ·rw[if_neg hz] at he
   repeat' ((first|refine nI ?_|refine aI ?_|refine tI ?_|refine fI ?_|fail);conv=>whnf)
   exact⟨iE he,rfl⟩
 rw[if_neg h2,if_neg h3] at he
 by_cases h4:t=4/\(l.length:Int)=n
 case neg=>
  rw[if_neg (fun h=>h4 ⟨h.1,h.2.1⟩)] at he
  repeat' ((first|refine nI ?_|refine aI ?_|refine dz trivial (by omega) ?_|refine dV trivial (by omega) ?_|refine dI ?_|refine dR ?_|refine dP ?_|refine al rfl ?_|refine pI _ rfl ?_|refine ap _ rfl ?_|refine tI ?_|refine fI ?_|refine ah (fun _=>?_) (fun _=>?_))<;>conv=>whnf)
  all_goals exact⟨iE he,rfl⟩
 obtain⟨rfl,h5⟩:=h4
 repeat' ((first|refine nI ?_|refine aI ?_|refine tI ?_|refine fI ?_|fail);conv=>whnf)
 refine dC (pR l hl) (fun _=>?_) (fun _=>?_)<;>(conv=>whnf)
 case refine_2=>
  rename_i hs
  rw[if_neg (fun h=>hs h.2.2)] at he
  exact⟨iE he,rfl⟩
 rename_i hs
 rw[if_pos ⟨rfl,h5,hs⟩,tN] at he
 refine nI ?_
 rw[tN]
 conv=>whnf
 by_cases h6:l.getD i 0=2
 ·have h7:=hs.two (by omega) h6
  rw[iR,if_pos h6,ge,if_pos h6] at he
  repeat' ((first|refine nI ?_|refine aI ?_|refine tI ?_|refine fI ?_|fail);conv=>whnf)
  (refine oP (GZ l _ (i+1) (by omega) hs (by omega) hl) ?_;conv=>whnf)
  refine aH.loopF ac ag (fun k:Nat=>k<=i) (fun k=>[(17, .int .i64 (k:Int)),(16, .int .i64 (lL l i k))]) (fun _=>[]) (fun k=>i-k) 0 (Nat.zero_le _) ?_;conv=>whnf
  refine⟨sI,?_⟩
  rintro k hk
  conv=>whnf
  refine ah ?_ ?_<;>(intro h8;conv=>whnf)
  ·have hsu:=jc l i k
   refine nI ?_
   rw[tN]
   conv=>whnf
   refine ah ?_ ?_<;>(intro h9;conv=>whnf)
   ·have h10:=hs.two (by omega) h9
    by_cases h11:k+1=i
    ·rw[yd h9 h11,if_pos rfl] at hsu
     repeat' ((first|refine nI ?_|refine aI ?_|refine tI ?_|refine fI ?_|fail);conv=>whnf)
     exact⟨k+1,sI,by omega,by dsimp only;omega⟩
    ·repeat' ((first|refine nI ?_|refine aI ?_|refine tI ?_|refine fI ?_|fail);conv=>whnf)
     (refine oP (GZ l _ (k+1) (by omega) hs (by omega) hl) ?_;conv=>whnf)
     by_cases h12:bo l (k+1)=i
     ·rw[ye h9 h12,if_pos rfl] at hsu
      repeat' ((first|refine nI ?_|refine aI ?_|refine tI ?_|refine fI ?_|fail);conv=>whnf)
      exact⟨k+1,sI,by omega,by dsimp only;omega⟩
     ·rw[yf h11 h12,if_neg (by decide)] at hsu
      repeat' ((first|refine nI ?_|refine aI ?_|refine tI ?_|refine fI ?_|fail);conv=>whnf)
      exact⟨k+1,sI,by omega,by dsimp only;omega⟩
   ·rw[yg h9,if_neg (by decide)] at hsu
    repeat' ((first|refine nI ?_|refine aI ?_|refine tI ?_|refine fI ?_|fail);conv=>whnf)
    exact⟨k+1,sI,by omega,by dsimp only;omega⟩
  ·obtain rfl:k=i:=by omega
   exact⟨iE he,rfl⟩
 ·rw[iR,if_neg h6,ge,if_neg h6] at he
  repeat' ((first|refine nI ?_|refine aI ?_|refine tI ?_|refine fI ?_|fail);conv=>whnf)
  refine aH.loopF ac ag (fun k:Nat=>k<=i) (fun k=>[(17, .int .i64 (k:Int)),(16, .int .i64 (lL l i k))]) (fun _=>[]) (fun k=>i-k) 0 (Nat.zero_le _) ?_;conv=>whnf
  refine⟨sI,?_⟩
  rintro k hk
  conv=>whnf
  refine ah ?_ ?_<;>(intro h8;conv=>whnf)
  ·have hsu:=jc l i k
   refine nI ?_
   rw[tN]
   conv=>whnf
   refine ah ?_ ?_<;>(intro h9;conv=>whnf)
   ·have h10:=hs.two (by omega) h9
    by_cases h11:k+1=i
    ·rw[yd h9 h11,if_pos rfl] at hsu
     repeat' ((first|refine nI ?_|refine aI ?_|refine tI ?_|refine fI ?_|fail);conv=>whnf)
     exact⟨k+1,sI,by omega,by dsimp only;omega⟩
    ·repeat' ((first|refine nI ?_|refine aI ?_|refine tI ?_|refine fI ?_|fail);conv=>whnf)
     (refine oP (GZ l _ (k+1) (by omega) hs (by omega) hl) ?_;conv=>whnf)
     by_cases h12:bo l (k+1)=i
     ·rw[ye h9 h12,if_pos rfl] at hsu
      repeat' ((first|refine nI ?_|refine aI ?_|refine tI ?_|refine fI ?_|fail);conv=>whnf)
      exact⟨k+1,sI,by omega,by dsimp only;omega⟩
     ·rw[yf h11 h12,if_neg (by decide)] at hsu
      repeat' ((first|refine nI ?_|refine aI ?_|refine tI ?_|refine fI ?_|fail);conv=>whnf)
      exact⟨k+1,sI,by omega,by dsimp only;omega⟩
   ·rw[yg h9,if_neg (by decide)] at hsu
    repeat' ((first|refine nI ?_|refine aI ?_|refine tI ?_|refine fI ?_|fail);conv=>whnf)
    exact⟨k+1,sI,by omega,by dsimp only;omega⟩
  ·obtain rfl:k=i:=by omega
   exact⟨iE he,rfl⟩
theorem b8 {c:aR} (hw:ct c=false):c.shape.length<=100/\c.states.length<=100/\c.sent.length<=100/\c.faulty.length<=100:=by
 unfold ct at hw
 simp at hw
 omega
def KW (p:au) (c:aR):Prop:=jC c.states p.states.length/\0<=c.correct/\c.correct<=c.states.length
noncomputable instance decPl (p:au) (c:aR):Decidable (KW p c):=Classical.propDecidable _
def KX (p:au) (c:aR):Prop:=p.topology=4->c.shape.length=c.states.length/\shp c.shape
noncomputable instance decTr (p:au) (c:aR):Decidable (KX p c):=Classical.propDecidable _
def J7 (q:aV) (c:aR):Prop:=∀j:Nat,(j:Int)<c.correct->c.states.getD j 0∈q.goal
noncomputable instance decRch (q:aV) (c:aR):Decidable (J7 q c):=Classical.propDecidable _
def J8 (S L:List Int):Nat:=L.countP (fun x=>decide (x∈S))
theorem EQ {l:List Int} {n:Int} (h:bQ l n=0):jC l n/\wL l:=by
 unfold bQ at h
 by_cases h1:jC l n
 ·rw[if_pos h1] at h
  by_cases h2:wL l
  ·exact⟨h1,h2⟩
  ·rw[if_neg h2] at h;omega
 ·rw[if_neg h1] at h;omega
theorem cF:∀{l:List Int},cz l=0->∀x∈l,x=0
 |[],_,x,hx=>by cases hx
 |a::l,h,x,hx=>by
  by_cases ha:a=0
  ·rw[av ha] at h
   rcases List.mem_cons.1 hx with rfl|hx
   ·exact ha
   ·exact cF h x hx
  ·rw[aw ha] at h;omega
theorem BO {t:Int} {l:List Int} {n i:Nat} (hi:i<n):JS t l n i=(pJ t l n i,pK t l n i,qK t l n i):=by
 unfold JS pJ pK qK
 rw[if_neg (by omega)]
 by_cases h2:t=2
 ·rw[if_pos h2,if_pos h2,if_pos h2,if_neg (show¬(t=4/\pH t l n=true) from fun h=>by have:=h.1;omega)]
  refine Prod.ext rfl (Prod.ext ?_ rfl)
  dsimp only
  split<;>split<;>omega
 ·rw[if_neg h2,if_neg h2,if_neg h2]
  by_cases h3:t=3
  ·rw[if_pos h3,if_pos h3,if_pos h3,if_neg (show¬(t=4/\pH t l n=true) from fun h=>by have:=h.1;omega)]
   refine Prod.ext ?_ (Prod.ext ?_ rfl)<;>dsimp only<;>split<;>split<;>omega
  ·rw[if_neg h3,if_neg h3,if_neg h3]
   have e:(t=4/\(l.length:Int)=n/\shp l)↔(t=4/\pH t l n=true):=by
    unfold pH
    rw[decide_eq_true_iff]
    constructor
    ·rintro⟨a,b,c⟩;exact⟨a,fun _=>⟨c,by omega⟩⟩
    ·rintro⟨a,b⟩;exact⟨a,by have:=(b a).2;omega,(b a).1⟩
   by_cases h4:t=4/\(l.length:Int)=n/\shp l
   ·rw[if_pos h4,if_pos (e.1 h4),if_pos (e.1 h4),if_pos (e.1 h4),tN]
   ·rw[if_neg h4,if_neg (fun h=>h4 (e.2 h)),if_neg (fun h=>h4 (e.2 h)),if_neg (fun h=>h4 (e.2 h))]
theorem F7 {t:Int} {l:List Int} {n i:Nat} (hi:i<n):pJ t l n i<n/\pK t l n i<n:=by
 unfold pJ pK
 by_cases h2:t=2
 ·rw[if_pos h2,if_pos h2];constructor
  ·omega
  ·split<;>omega
 ·rw[if_neg h2,if_neg h2]
  by_cases h3:t=3
  ·rw[if_pos h3,if_pos h3];constructor<;>split<;>omega
  ·rw[if_neg h3,if_neg h3]
   by_cases h4:t=4/\pH t l n=true
   ·rw[if_pos h4,if_pos h4]
    obtain⟨h5,h6⟩:=h4
    unfold pH at h6
    rw[decide_eq_true_iff] at h6
    obtain⟨h7,h8⟩:=h6 h5
    unfold iR ge
    by_cases h9:l.getD i 0=2
    ·have:=h7.two (by omega) h9
     rw[if_pos h9,if_pos h9];constructor<;>omega
    ·rw[if_neg h9,if_neg h9];constructor<;>omega
   ·rw[if_neg h4,if_neg h4];constructor<;>omega
def F8 (c:aR) (x v:Int):Prop:=0<=x/\c.states.getD x.toNat 0=v
def KY (p:au) (c:aR) (a b:Int) (i:Nat):Prop:=c.states.getD i 0=a/\(F8 c (pK p.topology c.shape c.states.length i) b\/(p.topology=4/\F8 c (pJ p.topology c.shape c.states.length i) b))
def I6 (p:au) (c:aR) (l:List Int):Prop:=∃i,i<c.states.length/\KY p c (l.getD 0 0) (l.getD 1 0) i
noncomputable instance decAdj (p:au) (c:aR) (l:List Int):Decidable (I6 p c l):=Classical.propDecidable _
end Go.Proofs.YtnjggjhkfncnlaaGreatDoor
