import Derived.Test.YtekmminpfhacpaaGreatDoorM4
set_option linter.unusedVariables false
set_option linter.unusedSimpArgs false
namespace Go.Proofs.YtekmminpfhacpaaGreatDoor
set_option maxRecDepth 100000
set_option maxHeartbeats 8000000
structure Mv where
 states:List Int
 least:Int
structure aJ where
 name:ByteArray
 kind:Int
 start:List Int
 bad:List Mv
 adjacent:List Int
 goal:List Int
def dv:Mv:=⟨[],0⟩
def iz (c:Mv):List AV:=[.sl 0 ak c.states, .int .i64 c.least]
def mK (q:aJ):List AV:=[.str q.name, .int .i64 q.kind, .sl 0 ak q.start, .sl dv iz q.bad, .sl 0 ak q.adjacent, .sl 0 ak q.goal]
def Bi (q:aJ):Prop:=500<q.name.size\/60<q.start.length\/60<q.bad.length\/60<q.adjacent.length\/60<q.goal.length\/∃j,j<q.bad.length/\60<(q.bad.getD j dv).states.length
instance (q:aJ):Decidable (Bi q):=inferInstanceAs (Decidable (_\/_))
theorem CM {q:aJ} (h:¬Bi q):q.name.size<=500/\q.start.length<=60/\q.bad.length<=60/\q.adjacent.length<=60/\q.goal.length<=60:=by
 unfold Bi at h
 omega
theorem GM {q:aJ} (h:¬Bi q):∀j,j<q.bad.length->(q.bad.getD j dv).states.length<=60:=fun j hj=>by
 have:¬(60<(q.bad.getD j dv).states.length):=fun h2=>h (.inr (.inr (.inr (.inr (.inr ⟨j,hj,h2⟩)))))
 omega
def Bj (q:aJ):Prop:=(q.name.size<=140737488355328/\q.start.length<=140737488355328/\q.bad.length<=140737488355328/\q.adjacent.length<=140737488355328/\q.goal.length<=140737488355328)/\∀j,j<q.bad.length->(q.bad.getD j dv).states.length<=140737488355328
theorem NO {q:aJ} (h:¬Bi q):Bj q:=⟨by have:=CM h;omega,fun j hj=>by have:=GM h j hj;omega⟩
theorem GN {q:aJ} (h:Bj q):q.name.size<=140737488355328/\q.start.length<=140737488355328/\q.bad.length<=140737488355328/\q.adjacent.length<=140737488355328/\q.goal.length<=140737488355328:=h.1
theorem wZ {q:aJ} (h:Bj q):∀j,j<q.bad.length->(q.bad.getD j dv).states.length<=140737488355328:=h.2
theorem KH (l:List Int) (s:Int) (hl:l.length<=4503599627370496):ab Tryz.prog 175 [.sl 0 ak l, .int .i64 s] (fun u=>∃n:Int,u= .int .i64 n/\(0<=n↔s∈l)):=by
 refine ab.intro ae ag Tryz.func175 rfl (by decide) ?_;(conv=>whnf)
 refine a8.loopF ae ag (fun k:Nat=>k<=l.length/\s∉l.take k) (fun k=>[(8, .int .i64 (k:Int))]) (fun _=>[]) (fun k=>l.length-k) 0 ⟨by omega,by simp⟩ ?_;conv=>whnf
 refine⟨sI,?_⟩
 rintro k ⟨hk,ha⟩
 conv=>whnf
 repeat' ((first|refine nI ?_|refine aI ?_|refine uI ?_|refine vI ?_|refine dI ?_|refine dR ?_|refine dP ?_|refine ar rfl ?_|refine pI _ rfl ?_|refine an _ rfl ?_|refine tI ?_|refine fI ?_|refine ai (fun _=>?_) (fun _=>?_))<;>conv=>whnf)
 ·rename_i h1 h2
  rw[tN] at h2
  refine⟨⟨k,rfl,fun _=>?_,fun _=>by omega⟩,rfl⟩
  rw[h2,gD,gL (by omega)]
  exact List.getElem_mem _
 ·rename_i h1 h2
  rw[tN] at h2
  refine⟨k+1,sI,⟨by omega,?_⟩,by dsimp only;omega⟩
  rw[List.take_succ_eq_append_getElem (by omega),List.mem_append,List.mem_singleton,not_or]
  refine⟨ha,?_⟩
  rw[gD,gL (by omega)] at h2
  exact h2
 ·obtain rfl:k=l.length:=by omega
  rw[List.take_length] at ha
  exact⟨⟨-1,rfl,fun h=>by omega,fun h=>absurd h ha⟩,rfl⟩
theorem bN (l:List Int) (s:Int) (hl:l.length<=4503599627370496):ab Tryz.prog 82 [.sl 0 ak l, .int .i64 s] (fun u=>u= .bool (decide (s∈l))):=by
 refine ab.intro ae ag Tryz.func82 rfl (by decide) ?_;(conv=>whnf)
 refine aj.of_pure (n:=5) (KH l s hl) rfl ?_
 rintro _ ⟨n,rfl,hn⟩
 conv=>whnf
 refine ai ?_ ?_<;>(intro h;conv=>whnf)
 ·exact⟨bk (hn.1 h),rfl⟩
 ·exact⟨aC (fun hh=>h (hn.2 hh)),rfl⟩
def KI (n:Int) (c:Mv):Int:=fF [cE c.states n,(if c.states.length=0\/c.least<1\/3<c.least then 1 else 0)]
def y8 (n:Int) (l:List Mv):Int:=fF (l.map (KI n))
def EG (p:ap) (l:List Int):Int:=if l.length=0 then 0 else if p.topology=1 then 6 else if l.length≠2 then 1 else fF [gO (l.getD 0 0) p.states.length,gO (l.getD 1 0) p.states.length]
def bF (p:ap) (q:aJ):Int:=
 if aL p≠0 then aL p else if¬dq q.name then 2 else if q.kind≠1/\q.kind≠2 then 1
 else if(q.kind=1/\0<q.goal.length)\/(q.kind=2/\(0<q.bad.length\/0<q.adjacent.length)) then 1
 else if cE q.start p.states.length≠0 then cE q.start p.states.length
 else if¬(∀j,j<q.start.length->q.start.getD j 0∈p.initial) then 5
 else if q.kind=2 then fF [cE q.goal p.states.length,(if q.goal.length=0 then 1 else 0)]
 else fF [(if q.bad.length=0/\q.adjacent.length=0 then 1 else 0),(if 3<q.bad.length then 4 else 0),y8 p.states.length q.bad,EG p q.adjacent]
theorem tE (l:List Mv) (n:Int) (hl:l.length<=4503599627370496) (hs:∀j,j<l.length->(l.getD j dv).states.length<=140737488355328):ab Tryz.prog 158 [.sl dv iz l, .int .i64 n] (fun u=>u= .int .i64 (y8 n l)):=by
 refine ab.intro ae ag Tryz.func158 rfl (by decide) ?_;(conv=>whnf)
 refine a8.loopF ae ag (fun k:Nat=>k<=l.length/\y8 n l=fF ((l.drop k).map (KI n))) (fun k=>[(10, .int .i64 (k:Int))]) (fun _=>[]) (fun k=>l.length-k) 0 ⟨by omega,rfl⟩ ?_;conv=>whnf
 refine⟨sI,?_⟩
 rintro k ⟨hk,he⟩
 conv=>whnf
 refine ai ?_ ?_<;>(intro h1;conv=>whnf)
 ·rw[lp _ dv (by omega)] at he
  have hlen:=hs k (by omega)
  refine nI ?_
  rw[tN]
  generalize l.getD k dv=g at he hlen
  conv=>whnf
  refine dI ?_
  conv=>whnf
  (refine oC (ou g.states n (by omega)) ?_;conv=>whnf)
  have fin:∀c:Int,c=(if g.states.length=0\/g.least<1\/3<g.least then 1 else 0)->fF [cE g.states n,c]=KI n g:=by rintro c rfl;rfl
  by_cases hc:g.states.length=0\/g.least<1\/3<g.least
  ·have ec:=fin 1 (by rw[if_pos hc])
   repeat' ((first|refine nI ?_|refine aI ?_|refine uI ?_|refine vI ?_|refine dI ?_|refine dR ?_|refine dP ?_|refine ar rfl ?_|refine pI _ rfl ?_|refine an _ rfl ?_|refine tI ?_|refine fI ?_|refine ai (fun _=>?_) (fun _=>?_))<;>conv=>whnf)
   all_goals
    (refine oC (jO 1) ?_;conv=>whnf)
    refine ef ?_
    conv=>whnf
    (refine oC (cW _ (by simp)) ?_;conv=>whnf)
    rw[ec]
    refine ai ?_ ?_<;>(intro h2;conv=>whnf)
    ·rw[if_pos h2] at he
     exact⟨aq he.symm,rfl⟩
    ·rw[if_neg h2] at he
     repeat' ((first|refine nI ?_|refine aI ?_|refine uI ?_|refine vI ?_|refine dI ?_|refine dR ?_|refine dP ?_|refine ar rfl ?_|refine pI _ rfl ?_|refine an _ rfl ?_|refine tI ?_|refine fI ?_|refine ai (fun _=>?_) (fun _=>?_))<;>conv=>whnf)
     exact⟨k+1,sI,⟨by omega,he⟩,by dsimp only;omega⟩
  ·have ec:=fin 0 (by rw[if_neg hc])
   repeat' ((first|refine nI ?_|refine aI ?_|refine tI ?_|refine fI ?_|fail);conv=>whnf)
   (refine oC (iI 1) ?_;conv=>whnf)
   refine ef ?_
   conv=>whnf
   (refine oC (cW _ (by simp)) ?_;conv=>whnf)
   rw[ec]
   refine ai ?_ ?_<;>(intro h2;conv=>whnf)
   ·rw[if_pos h2] at he
    exact⟨aq he.symm,rfl⟩
   ·rw[if_neg h2] at he
    repeat' ((first|refine nI ?_|refine aI ?_|refine uI ?_|refine vI ?_|refine dI ?_|refine dR ?_|refine dP ?_|refine ar rfl ?_|refine pI _ rfl ?_|refine an _ rfl ?_|refine tI ?_|refine fI ?_|refine ai (fun _=>?_) (fun _=>?_))<;>conv=>whnf)
    exact⟨k+1,sI,⟨by omega,he⟩,by dsimp only;omega⟩
 ·rw[List.drop_of_length_le (by omega)] at he
  exact⟨aq he.symm,rfl⟩
theorem GO (p:ap) (l:List Int):ab Tryz.prog 159 [.agg (dg p), .sl 0 ak l] (fun u=>u= .int .i64 (EG p l)):=by
 have he:=EG.eq_1 p l
 refine ab.intro ae ag Tryz.func159 rfl (by decide) ?_;(conv=>whnf)
 refine ar rfl ?_
 conv=>whnf
 refine ai ?_ ?_<;>(intro h1;conv=>whnf)
 ·rw[if_pos (by omega)] at he;exact⟨aq he.symm,rfl⟩
 rw[if_neg (by omega)] at he
 refine ai ?_ ?_<;>(intro h2;conv=>whnf)
 ·rw[if_pos h2] at he;exact⟨aq he.symm,rfl⟩
 rw[if_neg h2] at he
 refine ai ?_ ?_<;>(intro h3;conv=>whnf)
 ·rw[if_pos (by omega)] at he;exact⟨aq he.symm,rfl⟩
 rw[if_neg (by omega)] at he
 refine dI ?_
 conv=>whnf
 refine nI ?_
 conv=>whnf
 (refine oC (iv _ _) ?_;conv=>whnf)
 refine nI ?_
 conv=>whnf
 (refine oC (iv _ _) ?_;conv=>whnf)
 refine ef ?_
 conv=>whnf
 (refine oC (cW _ (by simp)) ?_;conv=>whnf)
 exact⟨aq he.symm,rfl⟩
theorem vw (p:ap) (q:aJ) (hp:qz p) (hq:Bj q):ab Tryz.prog 70 [.agg (dg p), .agg (mK q)] (fun u=>u= .int .i64 (bF p q)):=by
 have hle:=tA hp
 have hlq:=GN hq
 have he:=bF.eq_1 p q
 refine ab.intro ae ag Tryz.func70 rfl (by decide) ?_;(conv=>whnf)
 refine ar rfl ?_
 conv=>whnf
 refine ar rfl ?_
 conv=>whnf
 (refine oP (fN p hp) ?_;conv=>whnf)
 refine ai ?_ ?_<;>(intro h1;conv=>whnf)
 ·rw[if_pos h1] at he;exact⟨aq he.symm,rfl⟩
 rw[if_neg h1] at he
 refine ai ?_ ?_<;>(intro hk;conv=>whnf)
 all_goals
  refine dC (fG q.name (by omega)) (fun _=>?_) (fun _=>?_)<;>(conv=>whnf)
  case refine_2=>rename_i hv;rw[if_pos hv] at he;exact⟨aq he.symm,rfl⟩
  rename_i hv
  rw[if_neg (fun h=>h hv)] at he
  by_cases hA:q.kind≠1/\q.kind≠2
  ·rw[if_pos hA] at he
   repeat' ((first|refine nI ?_|refine aI ?_|refine uI ?_|refine vI ?_|refine dI ?_|refine dR ?_|refine dP ?_|refine ar rfl ?_|refine pI _ rfl ?_|refine an _ rfl ?_|refine tI ?_|refine fI ?_|refine ai (fun _=>?_) (fun _=>?_))<;>conv=>whnf)
   all_goals exact⟨aq he.symm,rfl⟩
  rw[if_neg hA] at he
  by_cases hB:(q.kind=1/\0<q.goal.length)\/(q.kind=2/\(0<q.bad.length\/0<q.adjacent.length))
  ·rw[if_pos hB] at he
   repeat' ((first|refine nI ?_|refine aI ?_|refine uI ?_|refine vI ?_|refine dI ?_|refine dR ?_|refine dP ?_|refine ar rfl ?_|refine pI _ rfl ?_|refine an _ rfl ?_|refine tI ?_|refine fI ?_|refine ai (fun _=>?_) (fun _=>?_))<;>conv=>whnf)
   all_goals exact⟨aq he.symm,rfl⟩
  rw[if_neg hB] at he
  repeat' ((first|refine nI ?_|refine aI ?_|refine tI ?_|refine fI ?_|fail);conv=>whnf)
  (refine oP (ou q.start _ (by omega)) ?_;conv=>whnf)
  refine ai ?_ ?_<;>(intro h2;conv=>whnf)
  ·rw[if_pos h2] at he;exact⟨aq he.symm,rfl⟩
  rw[if_neg h2] at he
  refine a8.loopF ae ag (fun k:Nat=>k<=q.start.length/\∀j,j<k->q.start.getD j 0∈p.initial) (fun k=>[(67, .int .i64 (k:Int))]) (fun _=>[]) (fun k=>q.start.length-k) 0 ⟨by omega,fun j hj=>by omega⟩ ?_;conv=>whnf
  refine⟨sI,?_⟩
  rintro k ⟨hk',ha⟩
  conv=>whnf
  refine ai ?_ ?_<;>(intro h3;conv=>whnf)
  ·refine nI ?_
   rw[tN]
   conv=>whnf
   refine dC (bN p.initial _ (by omega)) (fun _=>?_) (fun _=>?_)<;>(conv=>whnf)
   ·rename_i hm
    repeat' ((first|refine nI ?_|refine aI ?_|refine tI ?_|refine fI ?_|fail);conv=>whnf)
    refine⟨k+1,sI,⟨by omega,fun j hj=>?_⟩,by dsimp only;omega⟩
    by_cases e:j=k
    ·subst e;exact hm
    ·exact ha j (by omega)
   ·rename_i hm
    rw[if_pos (fun h=>hm (h k (by omega)))] at he
    exact⟨aq he.symm,rfl⟩
  rw[if_neg (fun h=>h (fun j hj=>ha j (by omega)))] at he
  refine dI ?_
  conv=>whnf
 ·rw[if_neg (by omega)] at he
  have fin:∀a b:Int,a=(if q.bad.length=0/\q.adjacent.length=0 then 1 else 0)->b=(if 3<q.bad.length then 4 else 0)->bF p q=fF [a,b,y8 p.states.length q.bad,EG p q.adjacent]:=by rintro a b rfl rfl;exact he
  by_cases hC:q.bad.length=0/\q.adjacent.length=0
  ·have f1:=fin 1 0 (by rw[if_pos hC]) (by rw[if_neg (by omega)])
   repeat' ((first|refine nI ?_|refine aI ?_|refine tI ?_|refine fI ?_|fail);conv=>whnf)
   (refine oC (jO 1) ?_;conv=>whnf)
   repeat' ((first|refine nI ?_|refine aI ?_|refine tI ?_|refine fI ?_|fail);conv=>whnf)
   (refine oC (iI 4) ?_;conv=>whnf)
   (refine oC (tE q.bad _ (by omega) (wZ hq)) ?_;conv=>whnf)
   (refine oC (GO p q.adjacent) ?_;conv=>whnf)
   refine ef ?_
   conv=>whnf
   (refine oC (cW _ (by simp)) ?_;conv=>whnf)
   exact⟨aq f1.symm,rfl⟩
  ·by_cases hD:3<q.bad.length
   ·have f1:=fin 0 4 (by rw[if_neg hC]) (by rw[if_pos hD])
    repeat' ((first|refine nI ?_|refine aI ?_|refine uI ?_|refine vI ?_|refine dI ?_|refine dR ?_|refine dP ?_|refine ar rfl ?_|refine pI _ rfl ?_|refine an _ rfl ?_|refine tI ?_|refine fI ?_|refine ai (fun _=>?_) (fun _=>?_))<;>conv=>whnf)
    all_goals
     (refine oC (iI 1) ?_;conv=>whnf)
     repeat' ((first|refine nI ?_|refine aI ?_|refine tI ?_|refine fI ?_|fail);conv=>whnf)
     (refine oC (jO 4) ?_;conv=>whnf)
     (refine oC (tE q.bad _ (by omega) (wZ hq)) ?_;conv=>whnf)
     (refine oC (GO p q.adjacent) ?_;conv=>whnf)
     refine ef ?_
     conv=>whnf
     (refine oC (cW _ (by simp)) ?_;conv=>whnf)
     exact⟨aq f1.symm,rfl⟩
   ·have f1:=fin 0 0 (by rw[if_neg hC]) (by rw[if_neg hD])
    repeat' ((first|refine nI ?_|refine aI ?_|refine uI ?_|refine vI ?_|refine dI ?_|refine dR ?_|refine dP ?_|refine ar rfl ?_|refine pI _ rfl ?_|refine an _ rfl ?_|refine tI ?_|refine fI ?_|refine ai (fun _=>?_) (fun _=>?_))<;>conv=>whnf)
    all_goals
     (refine oC (iI 1) ?_;conv=>whnf)
     repeat' ((first|refine nI ?_|refine aI ?_|refine tI ?_|refine fI ?_|fail);conv=>whnf)
     (refine oC (iI 4) ?_;conv=>whnf)
     (refine oC (tE q.bad _ (by omega) (wZ hq)) ?_;conv=>whnf)
     (refine oC (GO p q.adjacent) ?_;conv=>whnf)
     refine ef ?_
     conv=>whnf
     (refine oC (cW _ (by simp)) ?_;conv=>whnf)
     exact⟨aq f1.symm,rfl⟩
 ·rw[if_pos (by omega)] at he
  (refine oC (ou q.goal _ (by omega)) ?_;conv=>whnf)
  by_cases hC:q.goal.length=0
  ·rw[if_pos hC] at he
   repeat' ((first|refine nI ?_|refine aI ?_|refine tI ?_|refine fI ?_|fail);conv=>whnf)
   (refine oC (jO 1) ?_;conv=>whnf)
   refine ef ?_
   conv=>whnf
   (refine oC (cW _ (by simp)) ?_;conv=>whnf)
   exact⟨aq he.symm,rfl⟩
  ·rw[if_neg hC] at he
   repeat' ((first|refine nI ?_|refine aI ?_|refine tI ?_|refine fI ?_|fail);conv=>whnf)
   (refine oC (iI 1) ?_;conv=>whnf)
   refine ef ?_
   conv=>whnf
   (refine oC (cW _ (by simp)) ?_;conv=>whnf)
   exact⟨aq he.symm,rfl⟩
theorem eY {c:aD} (hw:dA c=false):c.shape.length<=100/\c.states.length<=100/\c.sent.length<=100/\c.faulty.length<=100:=by
 unfold dA at hw
 simp at hw
 omega
def SB (p:ap) (c:aD):Prop:=qA c.states p.states.length/\0<=c.correct/\c.correct<=c.states.length
noncomputable instance decPl (p:ap) (c:aD):Decidable (SB p c):=Classical.propDecidable _
def SS (p:ap) (c:aD):Prop:=p.topology=4->c.shape.length=c.states.length/\shp c.shape
noncomputable instance decTr (p:ap) (c:aD):Decidable (SS p c):=Classical.propDecidable _
def Qj (q:aJ) (c:aD):Prop:=∀j:Nat,(j:Int)<c.correct->c.states.getD j 0∈q.goal
noncomputable instance decRch (q:aJ) (c:aD):Decidable (Qj q c):=Classical.propDecidable _
def RE (S L:List Int):Nat:=L.countP (fun x=>decide (x∈S))
theorem KJ {l:List Int} {n:Int} (h:cE l n=0):qA l n/\Ex l:=by
 unfold cE at h
 by_cases h1:qA l n
 ·rw[if_pos h1] at h
  by_cases h2:Ex l
  ·exact⟨h1,h2⟩
  ·rw[if_neg h2] at h;omega
 ·rw[if_neg h1] at h;omega
theorem cz:∀{l:List Int},fF l=0->∀x∈l,x=0
 |[],_,x,hx=>by cases hx
 |a::l,h,x,hx=>by
  by_cases ha:a=0
  ·rw[GG ha] at h
   rcases List.mem_cons.1 hx with rfl|hx
   ·exact ha
   ·exact cz h x hx
  ·rw[Bc ha] at h;omega
theorem Qk {t:Int} {l:List Int} {n i:Nat} (hi:i<n):wN t l n i<n/\wO t l n i<n:=by
 unfold wN wO
 by_cases h2:t=2
 ·rw[if_pos h2,if_pos h2];constructor
  ·omega
  ·split<;>omega
 ·rw[if_neg h2,if_neg h2]
  by_cases h3:t=3
  ·rw[if_pos h3,if_pos h3];constructor<;>split<;>omega
  ·rw[if_neg h3,if_neg h3]
   by_cases h4:t=4/\wM t l n=true
   ·rw[if_pos h4,if_pos h4]
    obtain⟨h5,h6⟩:=h4
    unfold wM at h6
    rw[decide_eq_true_iff] at h6
    obtain⟨h7,h8⟩:=h6 h5
    unfold ot ll
    by_cases h9:l.getD i 0=2
    ·have:=h7.two (by omega) h9
     rw[if_pos h9,if_pos h9];constructor<;>omega
    ·rw[if_neg h9,if_neg h9];constructor<;>omega
   ·rw[if_neg h4,if_neg h4];constructor<;>omega
def Mw (c:aD) (x v:Int):Prop:=0<=x/\c.states.getD x.toNat 0=v
def ST (p:ap) (c:aD) (a b:Int) (i:Nat):Prop:=c.states.getD i 0=a/\(Mw c (wO p.topology c.shape c.states.length i) b\/(p.topology=4/\Mw c (wN p.topology c.shape c.states.length i) b))
def Ql (p:ap) (c:aD) (l:List Int):Prop:=∃i,i<c.states.length/\ST p c (l.getD 0 0) (l.getD 1 0) i
noncomputable instance decAdj (p:ap) (c:aD) (l:List Int):Decidable (Ql p c l):=Classical.propDecidable _
end Go.Proofs.YtekmminpfhacpaaGreatDoor
