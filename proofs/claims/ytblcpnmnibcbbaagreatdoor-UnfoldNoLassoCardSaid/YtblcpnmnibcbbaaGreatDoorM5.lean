import Derived.Test.YtblcpnmnibcbbaaGreatDoorM4
set_option linter.unusedVariables false
set_option linter.unusedSimpArgs false
namespace Go.Proofs.YtblcpnmnibcbbaaGreatDoor
set_option maxRecDepth 100000
set_option maxHeartbeats 8000000
structure GT where
 states:List Int
 least:Int
structure bO where
 name:ByteArray
 kind:Int
 start:List Int
 bad:List GT
 adjacent:List Int
 goal:List Int
def i0:GT:=⟨[],0⟩
def BG (c:GT):List AV:=[.sl 0 aD c.states, .int .i64 c.least]
def gb (q:bO):List AV:=[.str q.name, .int .i64 q.kind, .sl 0 aD q.start, .sl i0 BG q.bad, .sl 0 aD q.adjacent, .sl 0 aD q.goal]
def fC (q:bO):Prop:=500<q.name.size\/60<q.start.length\/60<q.bad.length\/60<q.adjacent.length\/60<q.goal.length\/∃j,j<q.bad.length/\60<(q.bad.getD j i0).states.length
instance (q:bO):Decidable (fC q):=inferInstanceAs (Decidable (_\/_))
theorem jE {q:bO} (h:¬fC q):q.name.size<=500/\q.start.length<=60/\q.bad.length<=60/\q.adjacent.length<=60/\q.goal.length<=60:=by
 unfold fC at h
 omega
theorem BH {q:bO} (h:¬fC q):∀j,j<q.bad.length->(q.bad.getD j i0).states.length<=60:=fun j hj=>by
 have:¬(60<(q.bad.getD j i0).states.length):=fun h2=>h (.inr (.inr (.inr (.inr (.inr ⟨j,hj,h2⟩)))))
 omega
def HI (q:bO):Prop:=(q.name.size<=140737488355328/\q.start.length<=140737488355328/\q.bad.length<=140737488355328/\q.adjacent.length<=140737488355328/\q.goal.length<=140737488355328)/\∀j,j<q.bad.length->(q.bad.getD j i0).states.length<=140737488355328
theorem wJ {q:bO} (h:¬fC q):HI q:=⟨by have:=jE h;omega,fun j hj=>by have:=BH h j hj;omega⟩
theorem BI {q:bO} (h:HI q):q.name.size<=140737488355328/\q.start.length<=140737488355328/\q.bad.length<=140737488355328/\q.adjacent.length<=140737488355328/\q.goal.length<=140737488355328:=h.1
theorem oD {q:bO} (h:HI q):∀j,j<q.bad.length->(q.bad.getD j i0).states.length<=140737488355328:=h.2
theorem HJ (q:bO):aa Tryz.prog 13 [.agg (gb q)] (fun u=>u= .bool (decide (fC q))):=by
 refine aa.intro ab ac Tryz.func13 rfl (by decide) ?_;(conv=>whnf)
 refine am rfl ?_
 conv=>whnf
 repeat' ((first|refine nI ?_|refine aI ?_|refine uI ?_|refine vI ?_|refine dI ?_|refine dR ?_|refine dP ?_|refine am rfl ?_|refine pI _ rfl ?_|refine ak _ rfl ?_|refine tI ?_|refine fI ?_|refine ag (fun _=>?_) (fun _=>?_))<;>conv=>whnf)
 all_goals try first|exact⟨aH (by unfold fC;omega),rfl⟩|skip
 refine aR.loopF ab ac (fun k:Nat=>k<=q.bad.length/\∀j,j<k->¬60<(q.bad.getD j i0).states.length) (fun k=>[(3, .int .i64 (k:Int))]) (fun _=>[]) (fun k=>q.bad.length-k) 0 ⟨by omega,fun j hj=>by omega⟩ ?_;conv=>whnf
 refine⟨sI,?_⟩
 rintro k ⟨hk,ha⟩
 conv=>whnf
 refine ag ?_ ?_<;>(intro h1;conv=>whnf)
 ·refine nI ?_
  rw[tN]
  conv=>whnf
  refine ag ?_ ?_<;>(intro h2;conv=>whnf)
  ·exact⟨aH (.inr (.inr (.inr (.inr (.inr ⟨k,by omega,by omega⟩))))),rfl⟩
  ·repeat' ((first|refine nI ?_|refine aI ?_|refine tI ?_|refine fI ?_|fail);conv=>whnf)
   refine⟨k+1,sI,⟨by omega,fun j hj=>?_⟩,by dsimp only;omega⟩
   by_cases e:j=k
   ·subst e;omega
   ·exact ha j (by omega)
 ·refine⟨an ?_,rfl⟩
  unfold fC
  rintro(h|h|h|h|h|⟨j,h,h'⟩)
  any_goals omega
  exact ha j (by omega) h'
theorem Ee (l:List Int) (s:Int) (hl:l.length<=4503599627370496):aa Tryz.prog 133 [.sl 0 aD l, .int .i64 s] (fun u=>∃n:Int,u= .int .i64 n/\(0<=n↔s∈l)):=by
 refine aa.intro ab ac Tryz.func133 rfl (by decide) ?_;(conv=>whnf)
 refine aR.loopF ab ac (fun k:Nat=>k<=l.length/\s∉l.take k) (fun k=>[(8, .int .i64 (k:Int))]) (fun _=>[]) (fun k=>l.length-k) 0 ⟨by omega,by simp⟩ ?_;conv=>whnf
 refine⟨sI,?_⟩
 rintro k ⟨hk,ha⟩
 conv=>whnf
 repeat' ((first|refine nI ?_|refine aI ?_|refine uI ?_|refine vI ?_|refine dI ?_|refine dR ?_|refine dP ?_|refine am rfl ?_|refine pI _ rfl ?_|refine ak _ rfl ?_|refine tI ?_|refine fI ?_|refine ag (fun _=>?_) (fun _=>?_))<;>conv=>whnf)
 ·rename_i h1 h2
  rw[tN] at h2
  refine⟨⟨k,rfl,fun _=>?_,fun _=>by omega⟩,rfl⟩
  rw[h2,gD,gL (by omega)]
  exact List.getElem_mem _
 ·rename_i h1 h2
  rw[tN] at h2
  refine⟨k+1,sI,⟨by omega,?_⟩,by dsimp only;omega⟩
  rw[List.take_succ_eq_append_getElem (by omega),List.mem_append,List.mem_singleton,not_or]
  refine⟨ha,?_⟩
  rw[gD,gL (by omega)] at h2
  exact h2
 ·obtain rfl:k=l.length:=by omega
  rw[List.take_length] at ha
  exact⟨⟨-1,rfl,fun h=>by omega,fun h=>absurd h ha⟩,rfl⟩
theorem fM (l:List Int) (s:Int) (hl:l.length<=4503599627370496):aa Tryz.prog 86 [.sl 0 aD l, .int .i64 s] (fun u=>u= .bool (decide (s∈l))):=by
 refine aa.intro ab ac Tryz.func86 rfl (by decide) ?_;(conv=>whnf)
 refine ar.of_pure (n:=5) (Ee l s hl) rfl ?_
 rintro _ ⟨n,rfl,hn⟩
 conv=>whnf
 refine ag ?_ ?_<;>(intro h;conv=>whnf)
 ·exact⟨aH (hn.1 h),rfl⟩
 ·exact⟨an (fun hh=>h (hn.2 hh)),rfl⟩
theorem uX (l:List Int) (s:Int) (hl:l.length<=4503599627370496):aa Tryz.prog 63 [.sl 0 aD l, .int .i64 s] (fun u=>u= .bool (decide (s∈l))):=by
 refine aa.intro ab ac Tryz.func63 rfl (by decide) ?_;(conv=>whnf)
 refine aR.loopF ab ac (fun k:Nat=>k<=l.length/\s∉l.take k) (fun k=>[(5, .int .i64 (k:Int))]) (fun _=>[]) (fun k=>l.length-k) 0 ⟨by omega,by simp⟩ ?_;conv=>whnf
 refine⟨sI,?_⟩
 rintro k ⟨hk,ha⟩
 conv=>whnf
 repeat' ((first|refine nI ?_|refine aI ?_|refine uI ?_|refine vI ?_|refine dI ?_|refine dR ?_|refine dP ?_|refine am rfl ?_|refine pI _ rfl ?_|refine ak _ rfl ?_|refine tI ?_|refine fI ?_|refine ag (fun _=>?_) (fun _=>?_))<;>conv=>whnf)
 ·rename_i h1 h2
  rw[tN] at h2
  refine⟨aH ?_,rfl⟩
  rw[<-h2,gD,gL (by omega)]
  exact List.getElem_mem _
 ·rename_i h1 h2
  rw[tN] at h2
  refine⟨k+1,sI,⟨by omega,?_⟩,by dsimp only;omega⟩
  rw[List.take_succ_eq_append_getElem (by omega),List.mem_append,List.mem_singleton,not_or]
  refine⟨ha,fun e=>h2 ?_⟩
  rw[gD,gL (by omega)]
  exact e.symm
 ·obtain rfl:k=l.length:=by omega
  rw[List.take_length] at ha
  exact⟨an ha,rfl⟩
def BJ (n:Int) (c:GT):Int:=co [cO c.states n,(if c.states.length=0\/c.least<1\/3<c.least then 1 else 0)]
def pV (n:Int) (l:List GT):Int:=co (l.map (BJ n))
def pW (p:aq) (l:List Int):Int:=if l.length=0 then 0 else if p.topology=1 then 6 else if l.length≠2 then 1 else co [cZ (l.getD 0 0) p.states.length,cZ (l.getD 1 0) p.states.length]
def db (p:aq) (q:bO):Int:=
 if bC p≠0 then bC p else if¬cR q.name then 2 else if q.kind≠1/\q.kind≠2 then 1
 else if(q.kind=1/\0<q.goal.length)\/(q.kind=2/\(0<q.bad.length\/0<q.adjacent.length)) then 1
 else if cO q.start p.states.length≠0 then cO q.start p.states.length
 else if¬(∀j,j<q.start.length->q.start.getD j 0∈p.initial) then 5
 else if q.kind=2 then co [cO q.goal p.states.length,(if q.goal.length=0 then 1 else 0)]
 else co [(if q.bad.length=0/\q.adjacent.length=0 then 1 else 0),(if 3<q.bad.length then 4 else 0),pV p.states.length q.bad,pW p q.adjacent]
theorem pX (l:List GT) (n:Int) (hl:l.length<=4503599627370496) (hs:∀j,j<l.length->(l.getD j i0).states.length<=140737488355328):aa Tryz.prog 98 [.sl i0 BG l, .int .i64 n] (fun u=>u= .int .i64 (pV n l)):=by
 refine aa.intro ab ac Tryz.func98 rfl (by decide) ?_;(conv=>whnf)
 refine aR.loopF ab ac (fun k:Nat=>k<=l.length/\pV n l=co ((l.drop k).map (BJ n))) (fun k=>[(10, .int .i64 (k:Int))]) (fun _=>[]) (fun k=>l.length-k) 0 ⟨by omega,rfl⟩ ?_;conv=>whnf
 refine⟨sI,?_⟩
 rintro k ⟨hk,he⟩
 conv=>whnf
 refine ag ?_ ?_<;>(intro h1;conv=>whnf)
 ·rw[d7 _ i0 (by omega)] at he
  have hlen:=hs k (by omega)
  refine nI ?_
  rw[tN]
  generalize l.getD k i0=g at he hlen
  conv=>whnf
  refine dI ?_
  conv=>whnf
  (refine oC (lE g.states n (by omega)) ?_;conv=>whnf)
  have fin:∀c:Int,c=(if g.states.length=0\/g.least<1\/3<g.least then 1 else 0)->co [cO g.states n,c]=BJ n g:=by rintro c rfl;rfl
  by_cases hc:g.states.length=0\/g.least<1\/3<g.least
  ·have ec:=fin 1 (by rw[if_pos hc])
   repeat' ((first|refine nI ?_|refine aI ?_|refine uI ?_|refine vI ?_|refine dI ?_|refine dR ?_|refine dP ?_|refine am rfl ?_|refine pI _ rfl ?_|refine ak _ rfl ?_|refine tI ?_|refine fI ?_|refine ag (fun _=>?_) (fun _=>?_))<;>conv=>whnf)
   all_goals
    (refine oC (ir 1) ?_;conv=>whnf)
    refine dF ?_
    conv=>whnf
    (refine oC (cI _ (by simp)) ?_;conv=>whnf)
    rw[ec]
    refine ag ?_ ?_<;>(intro h2;conv=>whnf)
    ·rw[if_pos h2] at he
     exact⟨aj he.symm,rfl⟩
    ·rw[if_neg h2] at he
     repeat' ((first|refine nI ?_|refine aI ?_|refine uI ?_|refine vI ?_|refine dI ?_|refine dR ?_|refine dP ?_|refine am rfl ?_|refine pI _ rfl ?_|refine ak _ rfl ?_|refine tI ?_|refine fI ?_|refine ag (fun _=>?_) (fun _=>?_))<;>conv=>whnf)
     exact⟨k+1,sI,⟨by omega,he⟩,by dsimp only;omega⟩
  ·have ec:=fin 0 (by rw[if_neg hc])
   repeat' ((first|refine nI ?_|refine aI ?_|refine tI ?_|refine fI ?_|fail);conv=>whnf)
   (refine oC (gh 1) ?_;conv=>whnf)
   refine dF ?_
   conv=>whnf
   (refine oC (cI _ (by simp)) ?_;conv=>whnf)
   rw[ec]
   refine ag ?_ ?_<;>(intro h2;conv=>whnf)
   ·rw[if_pos h2] at he
    exact⟨aj he.symm,rfl⟩
   ·rw[if_neg h2] at he
    repeat' ((first|refine nI ?_|refine aI ?_|refine uI ?_|refine vI ?_|refine dI ?_|refine dR ?_|refine dP ?_|refine am rfl ?_|refine pI _ rfl ?_|refine ak _ rfl ?_|refine tI ?_|refine fI ?_|refine ag (fun _=>?_) (fun _=>?_))<;>conv=>whnf)
    exact⟨k+1,sI,⟨by omega,he⟩,by dsimp only;omega⟩
 ·rw[List.drop_of_length_le (by omega)] at he
  exact⟨aj he.symm,rfl⟩
theorem BK (p:aq) (l:List Int):aa Tryz.prog 99 [.agg (bc p), .sl 0 aD l] (fun u=>u= .int .i64 (pW p l)):=by
 have he:=pW.eq_1 p l
 refine aa.intro ab ac Tryz.func99 rfl (by decide) ?_;(conv=>whnf)
 refine am rfl ?_
 conv=>whnf
 refine ag ?_ ?_<;>(intro h1;conv=>whnf)
 ·rw[if_pos (by omega)] at he;exact⟨aj he.symm,rfl⟩
 rw[if_neg (by omega)] at he
 refine ag ?_ ?_<;>(intro h2;conv=>whnf)
 ·rw[if_pos h2] at he;exact⟨aj he.symm,rfl⟩
 rw[if_neg h2] at he
 refine ag ?_ ?_<;>(intro h3;conv=>whnf)
 ·rw[if_pos (by omega)] at he;exact⟨aj he.symm,rfl⟩
 rw[if_neg (by omega)] at he
 refine dI ?_
 conv=>whnf
 refine nI ?_
 conv=>whnf
 (refine oC (f8 _ _) ?_;conv=>whnf)
 refine nI ?_
 conv=>whnf
 (refine oC (f8 _ _) ?_;conv=>whnf)
 refine dF ?_
 conv=>whnf
 (refine oC (cI _ (by simp)) ?_;conv=>whnf)
 exact⟨aj he.symm,rfl⟩
theorem rT (p:aq) (q:bO) (hp:Bn p) (hq:HI q):aa Tryz.prog 48 [.agg (bc p), .agg (gb q)] (fun u=>u= .int .i64 (db p q)):=by
 have hle:=nu hp
 have hlq:=BI hq
 have he:=db.eq_1 p q
 refine aa.intro ab ac Tryz.func48 rfl (by decide) ?_;(conv=>whnf)
 refine am rfl ?_
 conv=>whnf
 refine am rfl ?_
 conv=>whnf
 (refine oP (iZ p hp) ?_;conv=>whnf)
 refine ag ?_ ?_<;>(intro h1;conv=>whnf)
 ·rw[if_pos h1] at he;exact⟨aj he.symm,rfl⟩
 rw[if_neg h1] at he
 refine ag ?_ ?_<;>(intro hk;conv=>whnf)
 all_goals
  refine dC (eV q.name (by omega)) (fun _=>?_) (fun _=>?_)<;>(conv=>whnf)
  case refine_2=>rename_i hv;rw[if_pos hv] at he;exact⟨aj he.symm,rfl⟩
  rename_i hv
  rw[if_neg (fun h=>h hv)] at he
  by_cases hA:q.kind≠1/\q.kind≠2
  ·rw[if_pos hA] at he
   repeat' ((first|refine nI ?_|refine aI ?_|refine uI ?_|refine vI ?_|refine dI ?_|refine dR ?_|refine dP ?_|refine am rfl ?_|refine pI _ rfl ?_|refine ak _ rfl ?_|refine tI ?_|refine fI ?_|refine ag (fun _=>?_) (fun _=>?_))<;>conv=>whnf)
   all_goals exact⟨aj he.symm,rfl⟩
  rw[if_neg hA] at he
  by_cases hB:(q.kind=1/\0<q.goal.length)\/(q.kind=2/\(0<q.bad.length\/0<q.adjacent.length))
  ·rw[if_pos hB] at he
   repeat' ((first|refine nI ?_|refine aI ?_|refine uI ?_|refine vI ?_|refine dI ?_|refine dR ?_|refine dP ?_|refine am rfl ?_|refine pI _ rfl ?_|refine ak _ rfl ?_|refine tI ?_|refine fI ?_|refine ag (fun _=>?_) (fun _=>?_))<;>conv=>whnf)
   all_goals exact⟨aj he.symm,rfl⟩
  rw[if_neg hB] at he
  repeat' ((first|refine nI ?_|refine aI ?_|refine tI ?_|refine fI ?_|fail);conv=>whnf)
  (refine oP (lE q.start _ (by omega)) ?_;conv=>whnf)
  refine ag ?_ ?_<;>(intro h2;conv=>whnf)
  ·rw[if_pos h2] at he;exact⟨aj he.symm,rfl⟩
  rw[if_neg h2] at he
  refine aR.loopF ab ac (fun k:Nat=>k<=q.start.length/\∀j,j<k->q.start.getD j 0∈p.initial) (fun k=>[(67, .int .i64 (k:Int))]) (fun _=>[]) (fun k=>q.start.length-k) 0 ⟨by omega,fun j hj=>by omega⟩ ?_;conv=>whnf
  refine⟨sI,?_⟩
  rintro k ⟨hk',ha⟩
  conv=>whnf
  refine ag ?_ ?_<;>(intro h3;conv=>whnf)
  ·refine nI ?_
   rw[tN]
   conv=>whnf
   refine dC (fM p.initial _ (by omega)) (fun _=>?_) (fun _=>?_)<;>(conv=>whnf)
   ·rename_i hm
    repeat' ((first|refine nI ?_|refine aI ?_|refine tI ?_|refine fI ?_|fail);conv=>whnf)
    refine⟨k+1,sI,⟨by omega,fun j hj=>?_⟩,by dsimp only;omega⟩
    by_cases e:j=k
    ·subst e;exact hm
    ·exact ha j (by omega)
   ·rename_i hm
    rw[if_pos (fun h=>hm (h k (by omega)))] at he
    exact⟨aj he.symm,rfl⟩
  rw[if_neg (fun h=>h (fun j hj=>ha j (by omega)))] at he
  refine dI ?_
  conv=>whnf
 ·rw[if_neg (by omega)] at he
  have fin:∀a b:Int,a=(if q.bad.length=0/\q.adjacent.length=0 then 1 else 0)->b=(if 3<q.bad.length then 4 else 0)->db p q=co [a,b,pV p.states.length q.bad,pW p q.adjacent]:=by rintro a b rfl rfl;exact he
  by_cases hC:q.bad.length=0/\q.adjacent.length=0
  ·have f1:=fin 1 0 (by rw[if_pos hC]) (by rw[if_neg (by omega)])
   repeat' ((first|refine nI ?_|refine aI ?_|refine tI ?_|refine fI ?_|fail);conv=>whnf)
   (refine oC (ir 1) ?_;conv=>whnf)
   repeat' ((first|refine nI ?_|refine aI ?_|refine tI ?_|refine fI ?_|fail);conv=>whnf)
   (refine oC (gh 4) ?_;conv=>whnf)
   (refine oC (pX q.bad _ (by omega) (oD hq)) ?_;conv=>whnf)
   (refine oC (BK p q.adjacent) ?_;conv=>whnf)
   refine dF ?_
   conv=>whnf
   (refine oC (cI _ (by simp)) ?_;conv=>whnf)
   exact⟨aj f1.symm,rfl⟩
  ·by_cases hD:3<q.bad.length
   ·have f1:=fin 0 4 (by rw[if_neg hC]) (by rw[if_pos hD])
    repeat' ((first|refine nI ?_|refine aI ?_|refine uI ?_|refine vI ?_|refine dI ?_|refine dR ?_|refine dP ?_|refine am rfl ?_|refine pI _ rfl ?_|refine ak _ rfl ?_|refine tI ?_|refine fI ?_|refine ag (fun _=>?_) (fun _=>?_))<;>conv=>whnf)
    all_goals
     (refine oC (gh 1) ?_;conv=>whnf)
     repeat' ((first|refine nI ?_|refine aI ?_|refine tI ?_|refine fI ?_|fail);conv=>whnf)
     (refine oC (ir 4) ?_;conv=>whnf)
     (refine oC (pX q.bad _ (by omega) (oD hq)) ?_;conv=>whnf)
     (refine oC (BK p q.adjacent) ?_;conv=>whnf)
     refine dF ?_
     conv=>whnf
     (refine oC (cI _ (by simp)) ?_;conv=>whnf)
     exact⟨aj f1.symm,rfl⟩
   ·have f1:=fin 0 0 (by rw[if_neg hC]) (by rw[if_neg hD])
    repeat' ((first|refine nI ?_|refine aI ?_|refine uI ?_|refine vI ?_|refine dI ?_|refine dR ?_|refine dP ?_|refine am rfl ?_|refine pI _ rfl ?_|refine ak _ rfl ?_|refine tI ?_|refine fI ?_|refine ag (fun _=>?_) (fun _=>?_))<;>conv=>whnf)
    all_goals
     (refine oC (gh 1) ?_;conv=>whnf)
     repeat' ((first|refine nI ?_|refine aI ?_|refine tI ?_|refine fI ?_|fail);conv=>whnf)
     (refine oC (gh 4) ?_;conv=>whnf)
     (refine oC (pX q.bad _ (by omega) (oD hq)) ?_;conv=>whnf)
     (refine oC (BK p q.adjacent) ?_;conv=>whnf)
     refine dF ?_
     conv=>whnf
     (refine oC (cI _ (by simp)) ?_;conv=>whnf)
     exact⟨aj f1.symm,rfl⟩
 ·rw[if_pos (by omega)] at he
  (refine oC (lE q.goal _ (by omega)) ?_;conv=>whnf)
  by_cases hC:q.goal.length=0
  ·rw[if_pos hC] at he
   repeat' ((first|refine nI ?_|refine aI ?_|refine tI ?_|refine fI ?_|fail);conv=>whnf)
   (refine oC (ir 1) ?_;conv=>whnf)
   refine dF ?_
   conv=>whnf
   (refine oC (cI _ (by simp)) ?_;conv=>whnf)
   exact⟨aj he.symm,rfl⟩
  ·rw[if_neg hC] at he
   repeat' ((first|refine nI ?_|refine aI ?_|refine tI ?_|refine fI ?_|fail);conv=>whnf)
   (refine oC (gh 1) ?_;conv=>whnf)
   refine dF ?_
   conv=>whnf
   (refine oC (cI _ (by simp)) ?_;conv=>whnf)
   exact⟨aj he.symm,rfl⟩
theorem y5 (p:aq) (q:bO) (hp:Bn p) (hq:HI q):aa Tryz.prog 39 [.agg (bc p), .agg (gb q)] (fun u=>u= .int .i64 (db p q)):=by
 have hle:=nu hp
 have hlq:=BI hq
 have he:=db.eq_1 p q
 refine aa.intro ab ac Tryz.func39 rfl (by decide) ?_;(conv=>whnf)
 refine am rfl ?_
 conv=>whnf
 refine am rfl ?_
 conv=>whnf
 (refine oP (nx p hp) ?_;conv=>whnf)
 refine ag ?_ ?_<;>(intro h1;conv=>whnf)
 ·rw[if_pos h1] at he;exact⟨aj he.symm,rfl⟩
 rw[if_neg h1] at he
 refine dC (jy q.name (by omega)) (fun _=>?_) (fun _=>?_)<;>(conv=>whnf)
 case refine_2=>rename_i hv;rw[if_pos hv] at he;exact⟨aj he.symm,rfl⟩
 rename_i hv
 rw[if_neg (fun h=>h hv)] at he
 by_cases hA:q.kind≠1/\q.kind≠2
 ·rw[if_pos hA] at he
  repeat' ((first|refine nI ?_|refine aI ?_|refine uI ?_|refine vI ?_|refine dI ?_|refine dR ?_|refine dP ?_|refine am rfl ?_|refine pI _ rfl ?_|refine ak _ rfl ?_|refine tI ?_|refine fI ?_|refine ag (fun _=>?_) (fun _=>?_))<;>conv=>whnf)
  all_goals exact⟨aj he.symm,rfl⟩
 rw[if_neg hA] at he
 by_cases hB:(q.kind=1/\0<q.goal.length)\/(q.kind=2/\(0<q.bad.length\/0<q.adjacent.length))
 ·rw[if_pos hB] at he
  repeat' ((first|refine nI ?_|refine aI ?_|refine uI ?_|refine vI ?_|refine dI ?_|refine dR ?_|refine dP ?_|refine am rfl ?_|refine pI _ rfl ?_|refine ak _ rfl ?_|refine tI ?_|refine fI ?_|refine ag (fun _=>?_) (fun _=>?_))<;>conv=>whnf)
  all_goals exact⟨aj he.symm,rfl⟩
 rw[if_neg hB] at he
 have hk12:q.kind=1\/q.kind=2:=by omega
 rcases hk12 with hk|hk
 all_goals
  repeat' ((first|refine nI ?_|refine aI ?_|refine tI ?_|refine fI ?_|fail);conv=>whnf)
  (refine oP (pL q.start _ (by omega) (by omega)) ?_;conv=>whnf)
  refine ag ?_ ?_<;>(intro h2;conv=>whnf)
  ·rw[if_pos h2] at he;exact⟨aj he.symm,rfl⟩
  rw[if_neg h2] at he
  refine aR.loopF ab ac (fun k:Nat=>k<=q.start.length/\∀j,j<k->q.start.getD j 0∈p.initial) (fun k=>[(8, .int .i64 (k:Int))]) (fun _=>[]) (fun k=>q.start.length-k) 0 ⟨by omega,fun j hj=>by omega⟩ ?_;conv=>whnf
  refine⟨sI,?_⟩
  rintro k ⟨hk',ha⟩
  conv=>whnf
  refine ag ?_ ?_<;>(intro h3;conv=>whnf)
  ·refine dI ?_
   conv=>whnf
   refine nI ?_
   rw[tN]
   conv=>whnf
   refine dD (uX p.initial _ (by omega)) (fun _=>?_) (fun _=>?_)<;>(conv=>whnf)
   ·rename_i hm
    repeat' ((first|refine nI ?_|refine aI ?_|refine tI ?_|refine fI ?_|fail);conv=>whnf)
    refine⟨k+1,sI,⟨by omega,fun j hj=>?_⟩,by dsimp only;omega⟩
    by_cases e:j=k
    ·subst e;exact hm
    ·exact ha j (by omega)
   ·rename_i hm
    rw[if_pos (fun h=>hm (h k (by omega)))] at he
    exact⟨aj he.symm,rfl⟩
  rw[if_neg (fun h=>h (fun j hj=>ha j (by omega)))] at he
  repeat' ((first|refine nI ?_|refine aI ?_|refine tI ?_|refine fI ?_|fail);conv=>whnf)
 ·rw[if_neg (by omega)] at he
  by_cases hC:q.bad.length=0/\q.adjacent.length=0
  ·rw[if_pos hC] at he
   repeat' ((first|refine nI ?_|refine aI ?_|refine tI ?_|refine fI ?_|fail);conv=>whnf)
   exact⟨aj he.symm,rfl⟩
  rw[if_neg hC] at he
  have he:db p q=co [(if 3<q.bad.length then 4 else 0),pV p.states.length q.bad,pW p q.adjacent]:=he
  by_cases hD:3<q.bad.length
  ·rw[if_pos hD] at he
   repeat' ((first|refine nI ?_|refine aI ?_|refine uI ?_|refine vI ?_|refine dI ?_|refine dR ?_|refine dP ?_|refine am rfl ?_|refine pI _ rfl ?_|refine ak _ rfl ?_|refine tI ?_|refine fI ?_|refine ag (fun _=>?_) (fun _=>?_))<;>conv=>whnf)
   all_goals exact⟨aj he.symm,rfl⟩
  rw[if_neg hD] at he
  have he:db p q=co [pV p.states.length q.bad,pW p q.adjacent]:=he
  repeat' ((first|refine nI ?_|refine aI ?_|refine uI ?_|refine vI ?_|refine dI ?_|refine dR ?_|refine dP ?_|refine am rfl ?_|refine pI _ rfl ?_|refine ak _ rfl ?_|refine tI ?_|refine fI ?_|refine ag (fun _=>?_) (fun _=>?_))<;>conv=>whnf)
  all_goals
   refine aR.loopF ab ac (fun k:Nat=>k<=q.bad.length/\pV p.states.length q.bad=co ((q.bad.drop k).map (BJ p.states.length))) (fun k=>[(10, .int .i64 (k:Int))]) (fun _=>[]) (fun k=>q.bad.length-k) 0 ⟨by omega,rfl⟩ ?_;conv=>whnf
   refine⟨sI,?_⟩
   rintro k ⟨hk',hr⟩
   conv=>whnf
   refine ag ?_ ?_<;>(intro h3;conv=>whnf)
   ·first
    |(exfalso;omega)
    |rw[d7 _ i0 (by omega)] at hr
     have hlen:=oD hq k (by omega)
     refine nI ?_
     rw[tN]
     conv=>whnf
     (refine oP (pL (q.bad.getD k i0).states _ (by omega) (by omega)) ?_;conv=>whnf)
     have hg:=BJ.eq_1 p.states.length (q.bad.getD k i0)
     refine ag ?_ ?_<;>(intro h4;conv=>whnf)
     ·rw[cx h4] at hg
      rw[hg,if_pos h4] at hr
      rw[hr,cx h4] at he
      exact⟨aj he.symm,rfl⟩
     refine nI ?_
     rw[tN]
     conv=>whnf
     rw[bH (by omega)] at hg
     by_cases hc:(q.bad.getD k i0).states.length=0\/(q.bad.getD k i0).least<1\/3<(q.bad.getD k i0).least
     ·rw[if_pos hc] at hg
      rw[hg] at hr
      rw[hr] at he
      by_cases hz:(q.bad.getD k i0).states.length=0
      ·repeat' ((first|refine nI ?_|refine aI ?_|refine tI ?_|refine fI ?_|fail);conv=>whnf)
       exact⟨aj he.symm,rfl⟩
      ·repeat' ((first|refine nI ?_|refine aI ?_|refine tI ?_|refine fI ?_|fail);conv=>whnf)
       refine dC (bd _ _ _) (fun _=>?_) (fun _=>?_)<;>(conv=>whnf)
       ·rename_i h;rw[tN] at h;omega
       ·exact⟨aj he.symm,rfl⟩
     ·rw[if_neg hc] at hg
      rw[hg] at hr
      repeat' ((first|refine nI ?_|refine aI ?_|refine tI ?_|refine fI ?_|fail);conv=>whnf)
      refine dC (bd _ _ _) (fun _=>?_) (fun _=>?_)<;>(conv=>whnf)
      ·repeat' ((first|refine nI ?_|refine aI ?_|refine tI ?_|refine fI ?_|fail);conv=>whnf)
       exact⟨k+1,sI,⟨by omega,hr⟩,by dsimp only;omega⟩
      ·rename_i h;rw[tN] at h;omega
   rw[List.drop_of_length_le (by omega)] at hr
   rw[bH hr] at he
   have he:db p q=(if pW p q.adjacent≠0 then pW p q.adjacent else 0):=he
   have ha':=pW.eq_1 p q.adjacent
   by_cases h0:q.adjacent.length=0
   ·rw[if_pos h0] at ha'
    rw[ha'] at he
    first
    |(exfalso;omega)
    |skip
     repeat' ((first|refine nI ?_|refine aI ?_|refine tI ?_|refine fI ?_|fail);conv=>whnf)
     refine aR.loopF ab ac (fun i:Nat=>i=0) (fun i=>[(12, .int .i64 (i:Int))]) (fun _=>[]) (fun _=>0) 0 rfl ?_;conv=>whnf
     refine⟨sI,?_⟩
     rintro i rfl
     conv=>whnf
     repeat' ((first|refine nI ?_|refine aI ?_|refine tI ?_|refine fI ?_|fail);conv=>whnf)
     exact⟨aj he.symm,rfl⟩
   rw[if_neg h0] at ha'
   by_cases ht:p.topology=1
   ·rw[if_pos ht] at ha'
    rw[ha'] at he
    repeat' ((first|refine nI ?_|refine aI ?_|refine tI ?_|refine fI ?_|fail);conv=>whnf)
    exact⟨aj he.symm,rfl⟩
   rw[if_neg ht] at ha'
   by_cases h2':q.adjacent.length≠2
   ·rw[if_pos h2'] at ha'
    rw[ha'] at he
    repeat' ((first|refine nI ?_|refine aI ?_|refine tI ?_|refine fI ?_|fail);conv=>whnf)
    exact⟨aj he.symm,rfl⟩
   rw[if_neg h2'] at ha'
   repeat' ((first|refine nI ?_|refine aI ?_|refine tI ?_|refine fI ?_|fail);conv=>whnf)
   refine aR.loopF ab ac (fun i:Nat=>i<=2/\∀j,j<i->0<=q.adjacent.getD j 0/\q.adjacent.getD j 0<p.states.length) (fun i=>[(12, .int .i64 (i:Int))]) (fun _=>[]) (fun i=>2-i) 0 ⟨by omega,fun j hj=>by omega⟩ ?_;conv=>whnf
   refine⟨sI,?_⟩
   rintro i ⟨hi,hin⟩
   conv=>whnf
   refine ag ?_ ?_<;>(intro h5;conv=>whnf)
   ·refine nI ?_
    rw[tN]
    conv=>whnf
    repeat' ((first|refine nI ?_|refine aI ?_|refine tI ?_|refine fI ?_|fail);conv=>whnf)
    refine dC (bd _ _ _) (fun _=>?_) (fun _=>?_)<;>(conv=>whnf)
    ·rename_i h6
     repeat' ((first|refine nI ?_|refine aI ?_|refine tI ?_|refine fI ?_|fail);conv=>whnf)
     refine⟨i+1,sI,⟨by omega,fun j hj=>?_⟩,by dsimp only;omega⟩
     by_cases e:j=i
     ·subst e;omega
     ·exact hin j (by omega)
    ·rename_i h6
     have h7:pW p q.adjacent=5:=by
      rw[ha']
      have hi2:i=0\/i=1:=by omega
      rcases hi2 with rfl|rfl
      ·rw[cx (by rw[cZ,if_pos (by omega)];decide),cZ,if_pos (by omega)]
      ·have:=hin 0 (by omega)
       rw[bH (by rw[cZ,if_neg (by omega)]),cx (by rw[cZ,if_pos (by omega)];decide),cZ,if_pos (by omega)]
     rw[h7] at he
     exact⟨aj he.symm,rfl⟩
   ·have h7:pW p q.adjacent=0:=by
     rw[ha']
     have a0:=hin 0 (by omega)
     have a1:=hin 1 (by omega)
     rw[bH (by rw[cZ,if_neg (by omega)]),bH (by rw[cZ,if_neg (by omega)])];rfl
    rw[h7] at he
    exact⟨aj he.symm,rfl⟩
 ·rw[if_pos (by omega)] at he
  (refine oP (pL q.goal _ (by omega) (by omega)) ?_;conv=>whnf)
  refine ag ?_ ?_<;>(intro h4;conv=>whnf)
  ·rw[cx h4] at he;exact⟨aj he.symm,rfl⟩
  rw[bH (by omega)] at he
  by_cases h5:q.goal.length=0
  ·rw[if_pos h5] at he
   repeat' ((first|refine nI ?_|refine aI ?_|refine tI ?_|refine fI ?_|fail);conv=>whnf)
   exact⟨aj he.symm,rfl⟩
  ·rw[if_neg h5] at he
   repeat' ((first|refine nI ?_|refine aI ?_|refine tI ?_|refine fI ?_|fail);conv=>whnf)
   exact⟨aj he.symm,rfl⟩
theorem F4 (l:List Int) (a:Int) (i:Nat) (ha:a=i) (h:ji l) (hi:i<l.length) (hl:l.length<=1000):aa Tryz.prog 150 [.sl 0 aD l, .int .i64 a] (fun u=>u= .int .i64 (bF l i:Int)):=by
 subst ha
 have hat:=h.at hi
 refine aa.intro ab ac Tryz.func150 rfl (by decide) ?_;(conv=>whnf)
 refine aR.loopF ab ac (fun x:Nat×Nat=>x.2<=l.length/\x.1<=x.2+1/\bN x.1 (l.drop x.2)=some (l.drop (bF l i))) (fun x=>[(5, .int .i64 (x.1:Int)),(1, .int .i64 (x.2:Int))]) (fun _=>[]) (fun x=>l.length-x.2) (1,i) ⟨by dsimp only;omega,by dsimp only;omega,hat.1⟩ ?_;conv=>whnf
 refine⟨sI,?_⟩
 rintro x ⟨h1,h2,h3⟩
 conv=>whnf
 refine ag ?_ ?_<;>(intro h4;conv=>whnf)
 ·obtain⟨d,hd⟩:∃d,x.1=d+1:=⟨x.1-1,by omega⟩
  rw[hd] at h3
  have hj:x.2<l.length:=by
   by_cases hj:x.2<l.length
   ·exact hj
   ·rw[List.drop_of_length_le (by omega),fH] at h3;cases h3
  rw[fK hj,cn] at h3
  refine nI ?_
  rw[tN]
  conv=>whnf
  by_cases h0:l.getD x.2 0=0
  ·rw[if_pos h0] at h3
   repeat' ((first|refine nI ?_|refine aI ?_|refine tI ?_|refine fI ?_|fail);conv=>whnf)
   exact⟨(d,x.2+1),sI,⟨by dsimp only;omega,by dsimp only;omega,h3⟩,by dsimp only;omega⟩
  ·rw[if_neg h0] at h3
   by_cases h5:l.getD x.2 0=2
   ·rw[if_pos h5] at h3
    repeat' ((first|refine nI ?_|refine aI ?_|refine tI ?_|refine fI ?_|fail);conv=>whnf)
    exact⟨(d+2,x.2+1),sI,⟨by dsimp only;omega,by dsimp only;omega,h3⟩,by dsimp only;omega⟩
   ·rw[if_neg h5] at h3;cases h3
 ·have h6:x.1=0:=by omega
  rw[h6,dW,Option.some.injEq] at h3
  have h5:=congrArg List.length h3
  simp only[List.length_drop] at h5
  exact⟨aj (by omega),rfl⟩
theorem xI {l:List Int} {j k:Nat} (h:l.getD k 0=2) (h2:k+1=j):da l j k=true:=by unfold da;rw[decide_eq_true h,decide_eq_true h2];rfl
theorem xJ {l:List Int} {j k:Nat} (h:l.getD k 0=2) (h2:bF l (k+1)=j):da l j k=true:=by unfold da;rw[decide_eq_true h,decide_eq_true h2];cases decide (k+1=j)<;>rfl
theorem xK {l:List Int} {j k:Nat} (h:¬k+1=j) (h2:¬bF l (k+1)=j):da l j k=false:=by unfold da;rw[decide_eq_false h,decide_eq_false h2];cases decide (l.getD k 0=2)<;>rfl
theorem xL {l:List Int} {j k:Nat} (h:¬l.getD k 0=2):da l j k=false:=by unfold da;rw[decide_eq_false h];rfl
theorem wK (t:Int) (l:List Int) (n i:Nat) (hl:l.length<=1000) (hn:n<=1000) (hi:i<n):aa Tryz.prog 115 [.int .i64 t, .sl 0 aD l, .int .i64 (n:Int), .int .i64 (i:Int)] (fun u=>u=Hy (Ix t l n i)):=by
 have he:=Ix.eq_1 t l n i
 rw[if_neg (by omega)] at he
 refine aa.intro ab ac Tryz.func115 rfl (by decide) ?_;(conv=>whnf)
 repeat' ((first|refine nI ?_|refine aI ?_|refine tI ?_|refine fI ?_|fail);conv=>whnf)
 refine dC (jC _ _ _) (fun _=>?_) (fun _=>?_)<;>(conv=>whnf)
 case refine_2=>rename_i h;omega
 refine ag ?_ ?_<;>(intro h3;conv=>whnf)
 ·rw[if_neg (by omega),if_pos h3] at he
  have hm:((i:Int)+1).tmod n=if(i:Int)+1=n then 0 else(i:Int)+1:=by
   by_cases h:(i:Int)+1=n
   ·rw[if_pos h,h,Int.tmod_self]
   ·rw[if_neg h,Int.tmod_eq_of_lt (by omega) (by omega)]
  by_cases hz:i=0
  ·rw[if_pos (by omega)] at he
   repeat' ((first|refine nI ?_|refine aI ?_|refine tI ?_|refine fI ?_|fail);conv=>whnf)
   refine dI ?_
   conv=>whnf
   repeat' ((first|refine nI ?_|refine aI ?_|refine tI ?_|refine fI ?_|fail);conv=>whnf)
   exact⟨ip (by rw[he,hm]),rfl⟩
  ·rw[if_neg (by omega)] at he
   repeat' ((first|refine nI ?_|refine aI ?_|refine tI ?_|refine fI ?_|fail);conv=>whnf)
   refine dI ?_
   conv=>whnf
   repeat' ((first|refine nI ?_|refine aI ?_|refine tI ?_|refine fI ?_|fail);conv=>whnf)
   exact⟨ip (by rw[he,hm]),rfl⟩
 refine ag ?_ ?_<;>(intro h2;conv=>whnf)
 ·rw[if_pos h2] at he
  by_cases hz:(i:Int)+1=n
  ·rw[if_pos hz] at he
   repeat' ((first|refine nI ?_|refine aI ?_|refine tI ?_|refine fI ?_|fail);conv=>whnf)
   exact⟨ip he,rfl⟩
  ·rw[if_neg hz] at he
   repeat' ((first|refine nI ?_|refine aI ?_|refine tI ?_|refine fI ?_|fail);conv=>whnf)
   exact⟨ip he,rfl⟩
 rw[if_neg h2,if_neg h3] at he
 by_cases h4:t=4/\(l.length:Int)=n
 case neg=>
  rw[if_neg (fun h=>h4 ⟨h.1,h.2.1⟩)] at he
  repeat' ((first|refine nI ?_|refine aI ?_|refine uI ?_|refine vI ?_|refine dI ?_|refine dR ?_|refine dP ?_|refine am rfl ?_|refine pI _ rfl ?_|refine ak _ rfl ?_|refine tI ?_|refine fI ?_|refine ag (fun _=>?_) (fun _=>?_))<;>conv=>whnf)
  all_goals exact⟨ip he,rfl⟩
 obtain⟨rfl,h5⟩:=h4
 repeat' ((first|refine nI ?_|refine aI ?_|refine tI ?_|refine fI ?_|fail);conv=>whnf)
 refine dC (uU l hl) (fun _=>?_) (fun _=>?_)<;>(conv=>whnf)
 case refine_2=>
  rename_i hs
  rw[if_neg (fun h=>hs h.2.2)] at he
  exact⟨ip he,rfl⟩
 rename_i hs
 rw[if_pos ⟨rfl,h5,hs⟩,tN] at he
 refine nI ?_
 rw[tN]
 conv=>whnf
 by_cases h6:l.getD i 0=2
 ·have h7:=hs.two (by omega) h6
  rw[iG,if_pos h6,fR,if_pos h6] at he
  repeat' ((first|refine nI ?_|refine aI ?_|refine tI ?_|refine fI ?_|fail);conv=>whnf)
  (refine oP (F4 l _ (i+1) (by omega) hs (by omega) hl) ?_;conv=>whnf)
  refine aR.loopF ab ac (fun k:Nat=>k<=i) (fun k=>[(17, .int .i64 (k:Int)),(16, .int .i64 (lC l i k))]) (fun _=>[]) (fun k=>i-k) 0 (Nat.zero_le _) ?_;conv=>whnf
  refine⟨sI,?_⟩
  rintro k hk
  conv=>whnf
  refine ag ?_ ?_<;>(intro h8;conv=>whnf)
  ·have hsu:=iW l i k
   refine nI ?_
   rw[tN]
   conv=>whnf
   refine ag ?_ ?_<;>(intro h9;conv=>whnf)
   ·have h10:=hs.two (by omega) h9
    by_cases h11:k+1=i
    ·rw[xI h9 h11,if_pos rfl] at hsu
     repeat' ((first|refine nI ?_|refine aI ?_|refine tI ?_|refine fI ?_|fail);conv=>whnf)
     exact⟨k+1,sI,by omega,by dsimp only;omega⟩
    ·repeat' ((first|refine nI ?_|refine aI ?_|refine tI ?_|refine fI ?_|fail);conv=>whnf)
     (refine oP (F4 l _ (k+1) (by omega) hs (by omega) hl) ?_;conv=>whnf)
     by_cases h12:bF l (k+1)=i
     ·rw[xJ h9 h12,if_pos rfl] at hsu
      repeat' ((first|refine nI ?_|refine aI ?_|refine tI ?_|refine fI ?_|fail);conv=>whnf)
      exact⟨k+1,sI,by omega,by dsimp only;omega⟩
     ·rw[xK h11 h12,if_neg (by decide)] at hsu
      repeat' ((first|refine nI ?_|refine aI ?_|refine tI ?_|refine fI ?_|fail);conv=>whnf)
      exact⟨k+1,sI,by omega,by dsimp only;omega⟩
   ·rw[xL h9,if_neg (by decide)] at hsu
    repeat' ((first|refine nI ?_|refine aI ?_|refine tI ?_|refine fI ?_|fail);conv=>whnf)
    exact⟨k+1,sI,by omega,by dsimp only;omega⟩
  ·obtain rfl:k=i:=by omega
   exact⟨ip he,rfl⟩
 ·rw[iG,if_neg h6,fR,if_neg h6] at he
  repeat' ((first|refine nI ?_|refine aI ?_|refine tI ?_|refine fI ?_|fail);conv=>whnf)
  refine aR.loopF ab ac (fun k:Nat=>k<=i) (fun k=>[(17, .int .i64 (k:Int)),(16, .int .i64 (lC l i k))]) (fun _=>[]) (fun k=>i-k) 0 (Nat.zero_le _) ?_;conv=>whnf
  refine⟨sI,?_⟩
  rintro k hk
  conv=>whnf
  refine ag ?_ ?_<;>(intro h8;conv=>whnf)
  ·have hsu:=iW l i k
   refine nI ?_
   rw[tN]
   conv=>whnf
   refine ag ?_ ?_<;>(intro h9;conv=>whnf)
   ·have h10:=hs.two (by omega) h9
    by_cases h11:k+1=i
    ·rw[xI h9 h11,if_pos rfl] at hsu
     repeat' ((first|refine nI ?_|refine aI ?_|refine tI ?_|refine fI ?_|fail);conv=>whnf)
     exact⟨k+1,sI,by omega,by dsimp only;omega⟩
    ·repeat' ((first|refine nI ?_|refine aI ?_|refine tI ?_|refine fI ?_|fail);conv=>whnf)
     (refine oP (F4 l _ (k+1) (by omega) hs (by omega) hl) ?_;conv=>whnf)
     by_cases h12:bF l (k+1)=i
     ·rw[xJ h9 h12,if_pos rfl] at hsu
      repeat' ((first|refine nI ?_|refine aI ?_|refine tI ?_|refine fI ?_|fail);conv=>whnf)
      exact⟨k+1,sI,by omega,by dsimp only;omega⟩
     ·rw[xK h11 h12,if_neg (by decide)] at hsu
      repeat' ((first|refine nI ?_|refine aI ?_|refine tI ?_|refine fI ?_|fail);conv=>whnf)
      exact⟨k+1,sI,by omega,by dsimp only;omega⟩
   ·rw[xL h9,if_neg (by decide)] at hsu
    repeat' ((first|refine nI ?_|refine aI ?_|refine tI ?_|refine fI ?_|fail);conv=>whnf)
    exact⟨k+1,sI,by omega,by dsimp only;omega⟩
  ·obtain rfl:k=i:=by omega
   exact⟨ip he,rfl⟩
theorem aG {c:ap} (hw:aX c=false):c.shape.length<=100/\c.states.length<=100/\c.sent.length<=100/\c.faulty.length<=100:=by
 unfold aX at hw
 simp at hw
 omega
def Fh (p:aq) (c:ap):Prop:=jT c.states p.states.length/\0<=c.correct/\c.correct<=c.states.length
noncomputable instance decPl (p:aq) (c:ap):Decidable (Fh p c):=Classical.propDecidable _
def JF (p:aq) (c:ap):Prop:=p.topology=4->c.shape.length=c.states.length/\ji c.shape
noncomputable instance decTr (p:aq) (c:ap):Decidable (JF p c):=Classical.propDecidable _
def cS (q:bO) (c:ap):Prop:=∀j:Nat,(j:Int)<c.correct->c.states.getD j 0∈q.goal
noncomputable instance decRch (q:bO) (c:ap):Decidable (cS q c):=Classical.propDecidable _
theorem kY {l:List Int} {k n:Nat} (h:k<n):(l.take n).getD k 0=l.getD k 0:=by
 rw[gD,gD,List.getElem?_take,if_pos h]
theorem BL (q:bO) (c:ap) (hq:¬fC q) (hw:aX c=false) (hc0:0<=c.correct/\c.correct<=c.states.length):aa Tryz.prog 44 [.agg (gb q), .agg (aY c)] (fun u=>u= .bool (decide (cS q c))):=by
 have hlq:=jE hq
 have hc:=aG hw
 have hlen:(c.states.take c.correct.toNat).length=c.correct.toNat:=by rw[List.length_take];omega
 refine aa.intro ab ac Tryz.func44 rfl (by decide) ?_;(conv=>whnf)
 refine am rfl ?_
 conv=>whnf
 refine am rfl ?_
 conv=>whnf
 refine nI ?_
 conv=>whnf
 refine aR.loopF ab ac (fun k:Nat=>k<=c.correct.toNat/\∀j,j<k->c.states.getD j 0∈q.goal) (fun k=>[(13, .int .i64 (k:Int))]) (fun _=>[]) (fun k=>c.correct.toNat-k) 0 ⟨by omega,fun j hj=>by omega⟩ ?_;conv=>whnf
 refine⟨sI,?_⟩
 rintro k ⟨hk,ha⟩
 conv=>whnf
 refine ag ?_ ?_<;>(intro h1;conv=>whnf)
 ·refine nI ?_
  rw[tN]
  conv=>whnf
  refine dC (fM q.goal _ (by omega)) (fun _=>?_) (fun _=>?_)<;>(conv=>whnf)
  ·rename_i h2
   rw[kY (by omega)] at h2
   repeat' ((first|refine nI ?_|refine aI ?_|refine tI ?_|refine fI ?_|fail);conv=>whnf)
   refine⟨k+1,sI,⟨by omega,fun j hj=>?_⟩,by dsimp only;omega⟩
   by_cases e:j=k
   ·subst e;exact h2
   ·exact ha j (by omega)
  ·rename_i h2
   rw[kY (by omega)] at h2
   exact⟨an (fun h=>h2 (h k (by omega))),rfl⟩
 ·exact⟨aH (fun j hj=>ha j (by omega)),rfl⟩
theorem uY (q:bO) (c:ap) (hq:¬fC q) (hw:aX c=false) (hc0:0<=c.correct/\c.correct<=c.states.length):aa Tryz.prog 26 [.agg (gb q), .agg (aY c)] (fun u=>u= .bool (decide (cS q c))):=by
 have hlq:=jE hq
 have hc:=aG hw
 refine aa.intro ab ac Tryz.func26 rfl (by decide) ?_;(conv=>whnf)
 refine am rfl ?_
 conv=>whnf
 refine am rfl ?_
 conv=>whnf
 refine aR.loopF ab ac (fun k:Nat=>k<=c.correct.toNat/\∀j,j<k->c.states.getD j 0∈q.goal) (fun k=>[(5, .int .i64 (k:Int))]) (fun _=>[]) (fun k=>c.correct.toNat-k) 0 ⟨by omega,fun j hj=>by omega⟩ ?_;conv=>whnf
 refine⟨sI,?_⟩
 rintro k ⟨hk,ha⟩
 conv=>whnf
 refine ag ?_ ?_<;>(intro h1;conv=>whnf)
 ·refine dI ?_
  conv=>whnf
  refine nI ?_
  rw[tN]
  conv=>whnf
  refine dD (uX q.goal _ (by omega)) (fun _=>?_) (fun _=>?_)<;>(conv=>whnf)
  ·rename_i h2
   repeat' ((first|refine nI ?_|refine aI ?_|refine tI ?_|refine fI ?_|fail);conv=>whnf)
   refine⟨k+1,sI,⟨by omega,fun j hj=>?_⟩,by dsimp only;omega⟩
   by_cases e:j=k
   ·subst e;exact h2
   ·exact ha j (by omega)
  ·rename_i h2
   exact⟨an (fun h=>h2 (h k (by omega))),rfl⟩
 ·exact⟨aH (fun j hj=>ha j (by omega)),rfl⟩
def BM (S L:List Int):Nat:=L.countP (fun x=>decide (x∈S))
theorem oE {l:List Int} {n:Int} (h:cO l n=0):jT l n/\yW l:=by
 unfold cO at h
 by_cases h1:jT l n
 ·rw[if_pos h1] at h
  by_cases h2:yW l
  ·exact⟨h1,h2⟩
  ·rw[if_neg h2] at h;omega
 ·rw[if_neg h1] at h;omega
theorem cd:∀{l:List Int},co l=0->∀x∈l,x=0
 |[],_,x,hx=>by cases hx
 |a::l,h,x,hx=>by
  by_cases ha:a=0
  ·rw[bH ha] at h
   rcases List.mem_cons.1 hx with rfl|hx
   ·exact ha
   ·exact cd h x hx
  ·rw[cx ha] at h;omega
theorem BN {t:Int} {l:List Int} {n i:Nat} (hi:i<n):Ix t l n i=(pJ t l n i,oz t l n i,qM t l n i):=by
 unfold Ix pJ oz qM
 rw[if_neg (by omega)]
 by_cases h2:t=2
 ·rw[if_pos h2,if_pos h2,if_pos h2,if_neg (show¬(t=4/\pH t l n=true) from fun h=>by have:=h.1;omega)]
  refine Prod.ext rfl (Prod.ext ?_ rfl)
  dsimp only
  split<;>split<;>omega
 ·rw[if_neg h2,if_neg h2,if_neg h2]
  by_cases h3:t=3
  ·rw[if_pos h3,if_pos h3,if_pos h3,if_neg (show¬(t=4/\pH t l n=true) from fun h=>by have:=h.1;omega)]
   refine Prod.ext ?_ (Prod.ext ?_ rfl)<;>dsimp only<;>split<;>split<;>omega
  ·rw[if_neg h3,if_neg h3,if_neg h3]
   have e:(t=4/\(l.length:Int)=n/\ji l)↔(t=4/\pH t l n=true):=by
    unfold pH
    rw[decide_eq_true_iff]
    constructor
    ·rintro⟨a,b,c⟩;exact⟨a,fun _=>⟨c,by omega⟩⟩
    ·rintro⟨a,b⟩;exact⟨a,by have:=(b a).2;omega,(b a).1⟩
   by_cases h4:t=4/\(l.length:Int)=n/\ji l
   ·rw[if_pos h4,if_pos (e.1 h4),if_pos (e.1 h4),if_pos (e.1 h4),tN]
   ·rw[if_neg h4,if_neg (fun h=>h4 (e.2 h)),if_neg (fun h=>h4 (e.2 h)),if_neg (fun h=>h4 (e.2 h))]
theorem Fi {t:Int} {l:List Int} {n i:Nat} (hi:i<n):pJ t l n i<n/\oz t l n i<n:=by
 unfold pJ oz
 by_cases h2:t=2
 ·rw[if_pos h2,if_pos h2];constructor
  ·omega
  ·split<;>omega
 ·rw[if_neg h2,if_neg h2]
  by_cases h3:t=3
  ·rw[if_pos h3,if_pos h3];constructor<;>split<;>omega
  ·rw[if_neg h3,if_neg h3]
   by_cases h4:t=4/\pH t l n=true
   ·rw[if_pos h4,if_pos h4]
    obtain⟨h5,h6⟩:=h4
    unfold pH at h6
    rw[decide_eq_true_iff] at h6
    obtain⟨h7,h8⟩:=h6 h5
    unfold iG fR
    by_cases h9:l.getD i 0=2
    ·have:=h7.two (by omega) h9
     rw[if_pos h9,if_pos h9];constructor<;>omega
    ·rw[if_neg h9,if_neg h9];constructor<;>omega
   ·rw[if_neg h4,if_neg h4];constructor<;>omega
def Fj (c:ap) (x v:Int):Prop:=0<=x/\c.states.getD x.toNat 0=v
def JG (p:aq) (c:ap) (a b:Int) (i:Nat):Prop:=c.states.getD i 0=a/\(Fj c (oz p.topology c.shape c.states.length i) b\/(p.topology=4/\Fj c (pJ p.topology c.shape c.states.length i) b))
def F5 (p:aq) (c:ap) (l:List Int):Prop:=∃i,i<c.states.length/\JG p c (l.getD 0 0) (l.getD 1 0) i
noncomputable instance decAdj (p:aq) (c:ap) (l:List Int):Decidable (F5 p c l):=Classical.propDecidable _
end Go.Proofs.YtblcpnmnibcbbaaGreatDoor
