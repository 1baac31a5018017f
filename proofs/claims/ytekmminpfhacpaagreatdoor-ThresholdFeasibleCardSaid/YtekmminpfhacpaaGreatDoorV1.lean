import Derived.Test.YtekmminpfhacpaaGreatDoorFwX
set_option linter.unusedVariables false
set_option linter.unusedSimpArgs false
namespace Go.Proofs.YtekmminpfhacpaaGreatDoor
set_option maxRecDepth 100000
set_option maxHeartbeats 16000000
theorem SV {p:ap} (hv:aL p=0):Qb p:=by
 have hb:=gZ hv
 have hle:=eX hb
 exact⟨by omega,fun j hj=>by have:=jM (i6 hb hj);omega⟩
def fi (p:ap) (q:aJ):List AV:=[.str p.name, .int .i64 p.topology, .sl t0 gc p.states, .sl t0 gc p.messages, .sl t0 gc p.values, .int .i64 p.fault, .sl ik cV p.resilience, .sl 0 ak p.initial, .sl 0 ak p.leader, .sl au iu p.rules,
 .str q.name, .int .i64 q.kind, .sl 0 ak q.start, .sl dv iz q.bad, .sl 0 ak q.adjacent, .sl 0 ak q.goal, .sl aW dJ (aA p.rules), .sl 0 ak (cA p q), .int .i64 (w6 p q:Int)]
def RI (p:ap) (q:aJ) (k:Int):List AV:=[.str p.name, .int .i64 p.topology, .sl t0 gc p.states, .sl t0 gc p.messages, .sl t0 gc p.values, .int .i64 p.fault, .sl ik cV p.resilience, .sl 0 ak p.initial, .sl 0 ak p.leader, .sl au iu p.rules,
 .str q.name, .int .i64 q.kind, .sl 0 ak q.start, .sl dv iz q.bad, .sl 0 ak q.adjacent, .sl 0 ak q.goal, .sl aW dJ (aA p.rules), .sl 0 ak (cA p q), .int .i64 k]
theorem zd (p:ap) (hp:qz p) (hv:aL p=0):ab Tryz.prog 104 [.agg (dg p)] (fun u=>u= .tup [.sl aW dJ (aA p.rules), .int .i64 0]):=by
 refine ab.intro ae ag Tryz.func104 rfl (by decide) ?_;(conv=>whnf)
 refine ar rfl ?_
 conv=>whnf
 (refine oP (fN p hp) ?_;conv=>whnf)
 refine fI ?_
 conv=>whnf
 (refine oP (rm p (SV hv)) ?_;conv=>whnf)
 exact⟨rfl,rfl⟩
theorem ow (l:List Int) (h0:0<l.length) (hl:l.length<=1000):ab Tryz.prog 39 [.sl 0 ak l] (fun u=>u= .sl 0 ak l):=by
 refine ab.intro ae ag Tryz.func39 rfl (by decide) ?_;(conv=>whnf)
 refine bp (fun e=>by rw[e] at h0;simp at h0) ?_
 conv=>whnf
 refine c7 0 ak [] rfl ?_
 conv=>whnf
 refine di _ rfl (by simp only[List.length_nil];omega) ?_
 conv=>whnf
 exact⟨rfl,rfl⟩
theorem K8 (p:ap) (q:aJ) (hv:bF p q=0):ab Tryz.prog 101 [.agg (dg p), .agg (mK q)] (fun u=>u= .tup [.sl 0 ak (cA p q), .int .i64 0]):=by
 have hq:=G1 hv
 have hp:=gZ (bf hv).vld
 have hle:=eX hp
 have hlq:=CM hq
 have hi:=(a9 (bf hv).vld).ini
 have he:=cA.eq_1 p q
 refine ab.intro ae ag Tryz.func101 rfl (by decide) ?_;(conv=>whnf)
 refine ar rfl ?_
 conv=>whnf
 refine ar rfl ?_
 conv=>whnf
 (refine oP (vw p q (wQ hp) (NO hq)) ?_;conv=>whnf)
 refine fI ?_
 conv=>whnf
 refine ai ?_ ?_<;>(intro h1;conv=>whnf)
 ·rw[if_pos (by omega)] at he
  (refine oP (ow q.start (by omega) (by omega)) ?_;conv=>whnf)
  exact⟨he▸rfl,rfl⟩
 ·rw[if_neg (by omega)] at he
  (refine oP (ow p.initial (by omega) (by omega)) ?_;conv=>whnf)
  exact⟨he▸rfl,rfl⟩
theorem ER (p:ap) (q:aJ) (hp:qz p) (hq:Bj q) (hv:bF p q≠0):ab Tryz.prog 101 [.agg (dg p), .agg (mK q)] (fun u=>u= .tup [.nilsl, .int .i64 (bF p q)]):=by
 refine ab.intro ae ag Tryz.func101 rfl (by decide) ?_;(conv=>whnf)
 refine ar rfl ?_
 conv=>whnf
 refine ar rfl ?_
 conv=>whnf
 (refine oP (vw p q hp hq) ?_;conv=>whnf)
 refine dQ hv ?_
 conv=>whnf
 exact⟨rfl,rfl⟩
theorem ES (x:bE) (q:aJ) (hq:q.goal.length<=4503599627370496):ab Tryz.prog 192 [.agg (iu x), .pd (mK q)] (fun u=>u= .bool (decide (x.src∈q.goal/\x.dst∉q.goal))):=by
 refine ab.intro ae ag Tryz.func192 rfl (by decide) ?_;(conv=>whnf)
 refine ar rfl ?_
 conv=>whnf
 refine dC (bN q.goal _ hq) (fun _=>?_) (fun _=>?_)<;>(conv=>whnf)
 ·rename_i h1
  refine dC (bN q.goal _ hq) (fun _=>?_) (fun _=>?_)<;>(conv=>whnf)
  ·rename_i h2;exact⟨aC (fun h=>h.2 h2),rfl⟩
  ·rename_i h2;exact⟨bk ⟨h1,h2⟩,rfl⟩
 ·rename_i h1;exact⟨aC (fun h=>h1 h.1),rfl⟩
def ET (l:List bE) (q:aJ):Prop:=∃j,j<l.length/\(l.getD j au).src∈q.goal/\(l.getD j au).dst∉q.goal
instance (l:List bE) (q:aJ):Decidable (ET l q):=inferInstanceAs (Decidable (∃j,j<l.length/\_))
theorem Hr (l:List bE) (q:aJ) (hl:l.length<=4503599627370496) (hq:q.goal.length<=4503599627370496):ab Tryz.prog 267 [.sl au iu l, .fn 192 [.pd (mK q)]] (fun u=>∃n:Int,u= .int .i64 n/\(0<=n↔ET l q)):=by
 refine ab.intro ae ag Tryz.func267 rfl (by decide) ?_;(conv=>whnf)
 refine a8.loopF ae ag (fun k:Nat=>k<=l.length/\∀j,j<k->¬((l.getD j au).src∈q.goal/\(l.getD j au).dst∉q.goal)) (fun k=>[(8, .int .i64 (k:Int))]) (fun _=>[]) (fun k=>l.length-k) 0 ⟨by omega,fun j hj=>by omega⟩ ?_;conv=>whnf
 refine⟨sI,?_⟩
 rintro k ⟨hk,ha⟩
 conv=>whnf
 refine ai ?_ ?_<;>(intro h1;conv=>whnf)
 ·refine nI ?_
  rw[tN]
  conv=>whnf
  refine dC (ES (l.getD k au) q hq) (fun _=>?_) (fun _=>?_)<;>(conv=>whnf)
  ·rename_i h2
   exact⟨⟨k,rfl,fun _=>⟨k,by omega,h2⟩,fun _=>by omega⟩,rfl⟩
  ·rename_i h2
   repeat' first|(refine at_ ?_;conv=>whnf)|(refine ai ?_ ?_<;>(intro _;conv=>whnf))
   refine⟨k+1,sI,⟨by omega,fun j hj=>?_⟩,by dsimp only;omega⟩
   by_cases e:j=k
   ·subst e;exact h2
   ·exact ha j (by omega)
 ·exact⟨⟨-1,rfl,fun h=>by omega,fun⟨j,h1,h2⟩=>absurd h2 (ha j (by omega))⟩,rfl⟩
theorem Hs (l:List bE) (q:aJ) (hl:l.length<=4503599627370496) (hq:q.goal.length<=4503599627370496):ab Tryz.prog 191 [.sl au iu l, .fn 192 [.pd (mK q)]] (fun u=>u= .bool (decide (ET l q))):=by
 refine ab.intro ae ag Tryz.func191 rfl (by decide) ?_;(conv=>whnf)
 refine aj.of_pure (n:=5) (Hr l q hl hq) rfl ?_
 rintro _ ⟨n,rfl,hn⟩
 conv=>whnf
 refine ai ?_ ?_<;>(intro h;conv=>whnf)
 ·exact⟨bk (hn.1 h),rfl⟩
 ·exact⟨aC (fun hh=>h (hn.2 hh)),rfl⟩
theorem Ht (p:ap) (q:aJ) (hk:q.kind=1\/q.kind=2) (hl:p.rules.length<=4503599627370496) (hq:q.goal.length<=4503599627370496):ab Tryz.prog 103 [.agg (dg p), .agg (mK q)] (fun u=>u= .bool (decide (qG p q))):=by
 have key:q.kind=2->(qG p q↔¬ET p.rules q):=fun h2=>by
  unfold qG ET
  constructor
  ·rintro h ⟨j,h3,h4,h5⟩;exact h5 (h h2 j h3 h4)
  ·intro h _ j h3 h4
   exact Classical.byContradiction fun h5=>h ⟨j,h3,h4,h5⟩
 refine ab.intro ae ag Tryz.func103 rfl (by decide) ?_;(conv=>whnf)
 refine ar rfl ?_
 conv=>whnf
 refine ar rfl ?_
 conv=>whnf
 refine ai ?_ ?_<;>(intro h;conv=>whnf)
 ·exact⟨bk (fun h2=>by omega),rfl⟩
 ·have k:=key (by omega)
  refine aj.borrow (n:=5) (Hs p.rules q hl hq) rfl (by rintro _ rfl;rfl) ?_
  rintro _ rfl
  by_cases ho:ET p.rules q
  ·rw[decide_eq_true ho]
   conv=>whnf
   exact⟨aC (fun h=>k.1 h ho),rfl⟩
  ·rw[decide_eq_false ho]
   conv=>whnf
   exact⟨bk (k.2 ho),rfl⟩
def ze (p:ap) (q:aJ):AV:=if dL p q=0 then .tup [.pd (fi p q), .int .i64 0] else .tup [.val (.pointer none), .int .i64 (dL p q)]
theorem g9 {p:ap} {q:aJ} {e:Int} (h:dL p q=e) (h0:e≠0):ze p q= .tup [.val (.pointer none), .int .i64 e]:=by unfold ze;rw[if_neg (by omega),h]
theorem jR {p:ap} {q:aJ} (h:dL p q=0):ze p q= .tup [.pd (fi p q), .int .i64 0]:=by unfold ze;rw[if_pos h]
theorem kD {p:ap} (hv:aL p=0):∀j,j<p.rules.length->(p.rules.getD j au).guards.length<=2:=fun j hj=>by
 have v:=a9 hv
 obtain⟨_,_,h3,_,_,h6⟩:=jm (v.rul j hj)
 by_cases k:(p.rules.getD j au).kind=1
 ·unfold fg at h6
  rw[if_pos k] at h6
  exact tD (cq h6 (cF p.messages.length (p.rules.getD j au).guards) (by simp))
 ·unfold ov at h3;omega
theorem Qs {p:ap} (hv:aL p=0) {k:Nat} (hk:k<=p.rules.length):EK p.rules k<=6561:=by
 have a:=G2 (kD hv) k hk
 have b:=(a9 hv).len
 have c:(3:Nat)^k<=3^8:=Nat.pow_le_pow_right (by omega) (by omega)
 omega
theorem vG (p:ap) (q:aJ) (hp:qz p) (hq:Bj q):ab Tryz.prog 36 [.agg (dg p), .agg (mK q)] (fun u=>u=ze p q):=by
 have he:=dL.eq_1 p q
 have hle:=tA hp
 have hlq:=GN hq
 refine ab.intro ae ag Tryz.func36 rfl (by decide) ?_;(conv=>whnf)
 refine ar rfl ?_
 conv=>whnf
 refine ar rfl ?_
 conv=>whnf
 by_cases h1:bF p q=0
 case neg=>
  rw[if_pos h1] at he
  (refine oP (ER p q hp hq h1) ?_;conv=>whnf)
  refine dQ h1 ?_
  conv=>whnf
  exact⟨(g9 he h1).symm,rfl⟩
 rw[if_neg (by omega)] at he
 have w:=bf h1
 have hv:=w.vld
 (refine oP (K8 p q h1) ?_;conv=>whnf)
 refine fI ?_
 conv=>whnf
 refine aj.of_pure (n:=5) (Oa p hp hv) rfl ?_
 rintro _ ⟨b,c,d,e,rfl⟩
 by_cases ht:io p
 case neg=>
  rw[decide_eq_false ht]
  rw[if_pos (fun h=>ht h.1)] at he
  conv=>whnf
  exact⟨(g9 he (by omega)).symm,rfl⟩
 rw[decide_eq_true ht]
 conv=>whnf
 refine dC (Ht p q w.kind (by omega) (by omega)) (fun _=>?_) (fun _=>?_)<;>(conv=>whnf)
 case refine_2=>
  rename_i hs
  rw[if_pos (fun h=>hs h.2)] at he
  exact⟨(g9 he (by omega)).symm,rfl⟩
 rename_i hs
 rw[if_neg (fun h=>h ⟨ht,hs⟩)] at he
 (refine oP (zd p hp hv) ?_;conv=>whnf)
 refine yl ?_
 conv=>whnf
 refine ai ?_ ?_<;>(intro hk;conv=>whnf)
 ·have hN:w6 p q=EK p.rules p.rules.length:=by unfold w6;rw[if_pos hk]
  refine a8.loopF ae ag (fun k:Nat=>k<=p.rules.length) (fun k=>[(55, .int .i64 (k:Int)),(12, .ptr 48 0)]) (fun k=>[(8, .box 175 [.bool true, .bool b, .bool c, .bool d, .bool e]),(48, .box 106 (RI p q (EK p.rules k:Int)))]) (fun k=>p.rules.length-k) 0 (Nat.zero_le _) ?_;conv=>whnf
  refine⟨sI,?_⟩
  rintro k hk'
  conv=>whnf
  refine ai ?_ ?_<;>(intro h2;conv=>whnf)
  ·have hlt:k<p.rules.length:=by omega
   refine nI ?_
   rw[tN]
   conv=>whnf
   have hg:=kD hv k hlt
   have hc:=Qs hv (k:=k) (by omega)
   have hn:(EK p.rules (k+1):Int)=(EK p.rules k:Int)*(1+((p.rules.getD k au).guards.length:Int)):=by rw[EK];push_cast;rfl
   have hb:(EK p.rules k:Int)*(1+((p.rules.getD k au).guards.length:Int))<=6561*3:=Int.mul_le_mul (by omega) (by omega) (by omega) (by omega)
   have hb0:0<=(EK p.rules k:Int)*(1+((p.rules.getD k au).guards.length:Int)):=Int.mul_nonneg (by omega) (by omega)
   first|refine dI ?_|refine lQ (by decide+kernel) ?_
   conv=>whnf
   refine aI ?_
   conv=>whnf
   refine aI ?_
   conv=>whnf
   repeat' (refine dt ?_;conv=>whnf)
   refine⟨k+1,?_,by omega,by dsimp only;omega⟩
   dsimp only
   rw[hn]
   exact sI
  ·obtain rfl:k=p.rules.length:=by omega
   rw[<-hN]
   refine ai ?_ ?_<;>(intro h3;conv=>whnf)
   ·rw[if_pos (by omega)] at he
    exact⟨(g9 he (by omega)).symm,rfl⟩
   ·rw[if_neg (by omega)] at he
    exact⟨(jR he).symm,rfl⟩
 ·have hN:w6 p q=1:=by unfold w6;rw[if_neg hk]
  rw[hN,if_neg (by omega)] at he
  repeat' (refine dt ?_;conv=>whnf)
  refine⟨?_,rfl⟩
  rw[jR he]
  unfold fi
  rw[hN]
  rfl
theorem Ob (p:ap) (q:aJ) (hp:qz p) (hq:Bj q):ab Tryz.prog 18 [.agg (dg p), .agg (mK q)] (fun u=>u= .int .i64 (dL p q)):=by
 refine ab.intro ae ag Tryz.func18 rfl (by decide) ?_;(conv=>whnf)
 refine ar rfl ?_
 conv=>whnf
 refine ar rfl ?_
 conv=>whnf
 refine aj.of_pure (n:=5) (vG p q hp hq) (by rfl) ?_
 rintro _ rfl
 by_cases h:dL p q=0
 ·rw[jR h]
  conv=>whnf
  exact⟨aq h.symm,rfl⟩
 ·rw[g9 rfl h]
  conv=>whnf
  exact⟨rfl,rfl⟩
def ur:List fL->fL->Int
 |[],_=>-1
 |a::l,g=>if a=g then 0 else if ur l g<0 then -1 else ur l g+1
theorem zg {g:fL}:∀{l:List fL},g∉l->ur l g=-1
 |[],_=>rfl
 |a::l,h=>by
  rw[List.mem_cons,not_or] at h
  rw[ur,if_neg (fun e=>h.1 e.symm),zg h.2,if_pos (by omega)]
theorem Hu {g:fL}:∀{l:List fL} {k:Nat},k<l.length->g∉l.take k->l.getD k aW=g->ur l g=(k:Int)
 |[],k,h,_,_=>by simp at h
 |a::l,0,_,_,h=>by rw[ur,if_pos (show a=g from h)];rfl
 |a::l,k+1,h,h1,h2=>by
  rw[List.take_succ_cons,List.mem_cons,not_or] at h1
  have:=Hu (l:=l) (k:=k) (by simpa using h) h1.2 h2
  rw[ur,if_neg (fun e=>h1.1 e.symm),this,if_neg (by omega)]
  omega
theorem CU (g:fL):∀l:List fL,-1<=ur l g/\ur l g<l.length
 |[]=>by simp[ur]
 |a::l=>by
  have:=CU g l
  rw[ur]
  simp only[List.length_cons]
  split
  ·omega
  ·split<;>omega
theorem CV {g:fL}:∀{l:List fL},g∈l->0<=ur l g/\l.getD (ur l g).toNat aW=g
 |a::l,h=>by
  rw[ur]
  by_cases e:a=g
  ·rw[if_pos e];exact⟨by omega,e⟩
  ·rw[if_neg e]
   obtain⟨h1,h2⟩:=CV (l:=l) (by rcases List.mem_cons.1 h with h|h;exact absurd h.symm e;exact h)
   rw[if_neg (by omega)]
   refine⟨by omega,?_⟩
   rw[show(ur l g+1).toNat=(ur l g).toNat+1 by omega]
   exact h2
theorem Bz {acc:List fL} {g:fL} (h:acc.Nodup):(kr acc g).Nodup:=by
 unfold kr
 split
 ·exact h
 ·rename_i hm
  rw[List.nodup_append]
  exact⟨h,by simp,fun a ha b hb e=>by rw[List.mem_singleton] at hb;subst hb;subst e;exact hm ha⟩
theorem rq:∀(gs acc:List fL),acc.Nodup->(gs.foldl kr acc).Nodup
 |[],_,h=>h
 |g::gs,acc,h=>rq gs _ (Bz h)
theorem BA (rs:List bE):(aA rs).Nodup:=rq _ _ (by simp)
theorem Hv {acc:List fL} {g x:fL} (h:x∈acc):x∈kr acc g:=by
 unfold kr
 split
 ·exact h
 ·exact List.mem_append_left _ h
theorem EU (acc:List fL) (g:fL):g∈kr acc g:=by
 unfold kr
 split
 ·assumption
 ·exact List.mem_append_right _ (List.mem_singleton.2 rfl)
theorem vH:∀(gs acc:List fL) (x:fL),x∈acc\/x∈gs->x∈gs.foldl kr acc
 |[],_,x,h=>by rcases h with h|h;exact h;cases h
 |g::gs,acc,x,h=>by
  rw[List.foldl_cons]
  refine vH gs _ x ?_
  rcases h with h|h
  ·exact .inl (Hv h)
  ·rcases List.mem_cons.1 h with rfl|h
   ·exact .inl (EU acc x)
   ·exact .inr h
theorem zh {rs:List bE} {j:Nat} (hj:j<rs.length) {g:fL} (h:g∈(rs.getD j au).guards):g∈aA rs:=by
 refine vH _ _ g (.inr (List.mem_flatMap.2 ⟨rs.getD j au,aH _ hj,h⟩))
theorem Hw {T:List fL} (hn:T.Nodup) {g:fL} (hg:g∈T) {sch:List Int} (hs:dM T.length sch) {j:Nat} (hj:j<=sch.length):ur T g∈sch.take j↔∃i,i<j/\T.getD (sch.getD i 0).toNat aW=g:=by
 obtain⟨h0,h1⟩:=CV hg
 have hr:=CU g T
 constructor
 ·intro h
  obtain⟨i,hi,e⟩:=List.mem_take_iff_getElem.1 h
  refine⟨i,by omega,?_⟩
  rw[am 0 (by omega),e]
  exact h1
 ·rintro⟨i,hi,e⟩
  have hb:=(hs i (by omega)).1
  have e2:sch.getD i 0=ur T g:=by
   have a:(sch.getD i 0).toNat<T.length:=by omega
   have b:(ur T g).toNat<T.length:=by omega
   rw[am aW a] at e
   rw[am aW b] at h1
   have:=(List.getElem_inj hn).1 (e.trans h1.symm)
   omega
  exact List.mem_take_iff_getElem.2 ⟨i,by omega,by rw[<-e2,am 0 (by omega)]⟩
theorem EV (l:List fL) (g:fL) (hl:l.length<=4503599627370496):ab Tryz.prog 271 [.sl aW dJ l, .agg (dJ g)] (fun u=>u= .int .i64 (ur l g)):=by
 refine ab.intro ae ag Tryz.func271 rfl (by decide) ?_;(conv=>whnf)
 refine ar rfl ?_
 conv=>whnf
 refine a8.loopF ae ag (fun k:Nat=>k<=l.length/\g∉l.take k) (fun k=>[(8, .int .i64 (k:Int))]) (fun _=>[]) (fun k=>l.length-k) 0 ⟨by omega,by simp⟩ ?_;conv=>whnf
 refine⟨sI,?_⟩
 rintro k ⟨hk,ha⟩
 conv=>whnf
 repeat' first|(refine at_ ?_;conv=>whnf)|(refine ai ?_ ?_<;>(intro _;conv=>whnf))
 ·rename_i h1 h2
  rw[tN] at h2
  have h2:g=l.getD k aW:=pp.1 h2
  refine⟨aq ?_,rfl⟩
  rw[Hu (by omega) ha h2.symm]
 ·rename_i h1 h2
  rw[tN] at h2
  refine⟨k+1,sI,⟨by omega,?_⟩,by dsimp only;omega⟩
  rw[bM aW (by omega),List.mem_append,List.mem_singleton,not_or]
  exact⟨ha,fun e=>h2 (pp.2 e)⟩
 ·obtain rfl:k=l.length:=by omega
  rw[List.take_length] at ha
  exact⟨aq (zg ha).symm,rfl⟩
theorem jo (p:ap) (q:aJ):ab Tryz.prog 108 [.pd (fi p q)] (fun u=>u= .bool (decide (lx p))):=by
 refine ab.intro ae ag Tryz.func108 rfl (by decide) ?_;(conv=>whnf)
 refine ai ?_ ?_<;>(intro h;conv=>whnf)
 ·exact⟨bk (.inl h),rfl⟩
 ·refine ai ?_ ?_<;>(intro h2;conv=>whnf)
  ·exact⟨bk (.inr h2),rfl⟩
  ·exact⟨aC (fun hh=>by rcases hh with hh|hh;exact h hh;exact h2 hh),rfl⟩
theorem qK (p:ap) (q:aJ) (l:List Int) (hl:l.length<=140737488355328):ab Tryz.prog 85 [.pd (fi p q), .sl 0 ak l] (fun u=>u= .bool (decide (dM (aA p.rules).length l))):=by
 refine ab.intro ae ag Tryz.func85 rfl (by decide) ?_;(conv=>whnf)
 refine a8.loopF ae ag (fun k:Nat=>k<=l.length/\∀i,i<k->(0<=l.getD i 0/\l.getD i 0<(aA p.rules).length)/\l.getD i 0∉l.take i) (fun k=>[(9, .int .i64 (k:Int))]) (fun _=>[]) (fun k=>l.length-k) 0 ⟨by omega,fun i hi=>by omega⟩ ?_;conv=>whnf
 refine⟨sI,?_⟩
 rintro k ⟨hk,ha⟩
 conv=>whnf
 refine ai ?_ ?_<;>(intro h1;conv=>whnf)
 ·have hlt:k<l.length:=by omega
  refine nI ?_
  rw[tN]
  conv=>whnf
  refine ai ?_ ?_<;>(intro h2;conv=>whnf)
  ·exact⟨aC (fun h=>by have:=(h k hlt).1.1;omega),rfl⟩
  refine ai ?_ ?_<;>(intro h3;conv=>whnf)
  ·exact⟨aC (fun h=>by have:=(h k hlt).1.2;omega),rfl⟩
  refine nI ?_
  rw[tN]
  conv=>whnf
  refine dC (bN (l.take k) (l.getD k 0) (by simp;omega)) (fun _=>?_) (fun _=>?_)<;>(conv=>whnf)
  ·rename_i h4
   exact⟨aC (fun h=>(h k hlt).2 h4),rfl⟩
  ·rename_i h4
   repeat' (refine dt ?_;conv=>whnf)
   refine⟨k+1,sI,⟨by omega,fun i hi=>?_⟩,by dsimp only;omega⟩
   by_cases e:i=k
   ·subst e;exact⟨⟨by omega,by omega⟩,h4⟩
   ·exact ha i (by omega)
 ·exact⟨bk (fun i hi=>ha i (by omega)),rfl⟩
def JV (p:ap) (number m:Nat):List Int:=List.replicate (p.rules.length-m) 0++(Bs p number).drop (p.rules.length-m)
theorem Hx (p:ap) (number:Nat):JV p number 0=List.replicate p.rules.length 0:=by
 unfold JV
 rw[Nat.sub_zero,List.drop_of_length_le (by rw[px];omega),List.append_nil]
theorem K9 (p:ap) (number:Nat):JV p number p.rules.length=Bs p number:=by
 unfold JV
 rw[Nat.sub_self]
 simp
theorem La (p:ap) {number m:Nat} (h:m<=p.rules.length):(JV p number m).length=p.rules.length:=by
 unfold JV
 rw[List.length_append,List.length_replicate,List.length_drop,px]
 omega
theorem Oc (p:ap) {number m:Nat} (h:m<p.rules.length):(JV p number m).set (p.rules.length-1-m) (G3 p.rules number (p.rules.length-1-m):Int)=JV p number (m+1):=by
 unfold JV
 have e1:p.rules.length-m=(p.rules.length-1-m)+1:=by omega
 have e2:p.rules.length-(m+1)=p.rules.length-1-m:=by omega
 have e3:(Bs p number).drop (p.rules.length-1-m)=(G3 p.rules number (p.rules.length-1-m):Int)::(Bs p number).drop (p.rules.length-1-m+1):=by
  rw[List.drop_eq_getElem_cons (by rw[px];omega)]
  congr 1
  rw[<-w8 (by omega),am 0 (by rw[px];omega)]
 rw[e1,e2,e3,List.replicate_succ',List.append_assoc,List.set_append_right _ _ (by simp)]
 simp
theorem Lb (p:ap) (q:aJ) (hv:aL p=0) (number:Nat) (hn:number<=1000000):ab Tryz.prog 199 [.pd (fi p q), .int .i64 (number:Int)] (fun u=>u=if q.kind=1 then .nilsl else .sl 0 ak (Bs p number)):=by
 have hl:=(a9 hv).len
 refine ab.intro ae ag Tryz.func199 rfl (by decide) ?_;(conv=>whnf)
 refine ai ?_ ?_<;>(intro hk;conv=>whnf)
 ·exact⟨by rw[if_pos hk];rfl,rfl⟩
 rw[if_neg hk]
 refine Cd 0 ak 0 rfl (by dsimp only;omega) ?_
 rw[tN]
 conv=>whnf
 refine aI ?_
 conv=>whnf
 have hch:∀m,Ft p.rules number m<=number:=by
  intro m
  induction m with
  |zero=>exact Nat.le_refl _
  |succ m ih=>rw[Ft];exact Nat.le_trans (Nat.div_le_self _ _) ih
 refine a8.loopF ae ag (fun m:Nat=>m<=p.rules.length) (fun m=>[(6, .int .i64 ((p.rules.length:Int)-1-(m:Int))),(1, .int .i64 (Ft p.rules number m:Int))]) (fun m=>[(20,cw (JV p number m))]) (fun m=>p.rules.length-m) 0 (Nat.zero_le _) ?_;conv=>whnf
 refine⟨by rw[Hx];exact sI,?_⟩
 rintro m hm
 conv=>whnf
 refine ai ?_ ?_<;>(intro h1;conv=>whnf)
 ·have hlt:m<p.rules.length:=by omega
  have ei:((p.rules.length:Int)-1-(m:Int)).toNat=p.rules.length-1-m:=by omega
  refine nI ?_
  rw[ei]
  conv=>whnf
  have hg:=kD hv (p.rules.length-1-m) (by omega)
  have hc:=hch m
  have hup:=Oc p (number:=number) hlt
  have ed:G3 p.rules number (p.rules.length-1-m)=Ft p.rules number m % (1+(p.rules.getD (p.rules.length-1-m) au).guards.length):=by unfold G3;rw[show p.rules.length-1-(p.rules.length-1-m)=m by omega]
  have eq:Ft p.rules number (m+1)=Ft p.rules number m / (1+(p.rules.getD (p.rules.length-1-m) au).guards.length):=rfl
  have hlen:=La p (number:=number) (m:=m) (by omega)
  generalize (p.rules.getD (p.rules.length-1-m) au).guards.length=g at hg ed eq
  have e1g:(1+(g:Int))=((1+g:Nat):Int):=by push_cast;rfl
  have et:((Ft p.rules number m:Nat):Int).tdiv (1+(g:Int))=((Ft p.rules number (m+1):Nat):Int):=by rw[e1g,eq,Int.ofNat_tdiv]
  have er:((Ft p.rules number m:Nat):Int).tmod (1+(g:Int))=((G3 p.rules number (p.rules.length-1-m):Nat):Int):=by rw[e1g,ed,Int.ofNat_tmod]
  have hc1:=hch (m+1)
  refine aI ?_
  conv=>whnf
  first|refine dI ?_|refine lQ (by decide+kernel) ?_
  conv=>whnf
  repeat' (refine dt ?_;conv=>whnf)
  rw[et]
  refine yj (by omega) (by omega) ?_
  conv=>whnf
  repeat' (refine dt ?_;conv=>whnf)
  rw[er,ei]
  refine an ((G3 p.rules number (p.rules.length-1-m):Nat):Int) rfl ?_
  conv=>whnf
  repeat' (refine dt ?_;conv=>whnf)
  refine⟨m+1,?_,by omega,by dsimp only;omega⟩
  dsimp only
  rw[<-hup]
  exact sI
 ·obtain rfl:m=p.rules.length:=by omega
  rw[K9]
  exact⟨rfl,rfl⟩
theorem zi (p:ap) (q:aJ) (hv:aL p=0) (sch:List Int) (hs:dM (aA p.rules).length sch) (r j:Nat) (hr:r<p.rules.length) (hj:j<=sch.length):ab Tryz.prog 210 [.pd (fi p q), .int .i64 (r:Int), .sl 0 ak sch, .int .i64 (j:Int)] (fun u=>u= .bool (decide (EL (aA p.rules) sch j (p.rules.getD r au)))):=by
 have hT:=(a9 hv).thr
 have hsl:=gf hs
 have hg2:=kD hv r hr
 have hin:∀g∈(p.rules.getD r au).guards,(ur (aA p.rules) g∈sch.take j↔∃i,i<j/\(aA p.rules).getD (sch.getD i 0).toNat aW=g):=fun g hg=>Hw (BA _) (zh hr hg) hs hj
 refine ab.intro ae ag Tryz.func210 rfl (by decide) ?_;(conv=>whnf)
 refine nI ?_
 rw[tN]
 generalize p.rules.getD r au=x at hin hg2
 conv=>whnf
 refine a8.loopF ae ag (fun k:Nat=>k<=x.guards.length/\∀i,i<k->∃m,m<j/\(aA p.rules).getD (sch.getD m 0).toNat aW=x.guards.getD i aW) (fun k=>[(21, .int .i64 (k:Int))]) (fun _=>[]) (fun k=>x.guards.length-k) 0 ⟨by omega,fun i hi=>by omega⟩ ?_;conv=>whnf
 refine⟨sI,?_⟩
 rintro k ⟨hk,ha⟩
 conv=>whnf
 refine ai ?_ ?_<;>(intro h1;conv=>whnf)
 ·have hlt:k<x.guards.length:=by omega
  refine nI ?_
  rw[tN]
  have hgm:=hin _ (aH (l:=x.guards) aW hlt)
  conv=>whnf
  refine dI ?_
  conv=>whnf
  refine nI ?_
  rw[tN]
  conv=>whnf
  (refine oC (EV (aA p.rules) (x.guards.getD k aW) (by omega)) ?_;conv=>whnf)
  refine dD (bN (sch.take j) (ur (aA p.rules) (x.guards.getD k aW)) (by simp;omega)) (fun _=>?_) (fun _=>?_)<;>(conv=>whnf)
  ·rename_i h2
   repeat' (refine dt ?_;conv=>whnf)
   refine⟨k+1,sI,⟨by omega,fun i hi=>?_⟩,by dsimp only;omega⟩
   by_cases e:i=k
   ·subst e;exact hgm.1 h2
   ·exact ha i (by omega)
  ·rename_i h2
   exact⟨aC (fun h=>h2 (hgm.2 (h _ (aH (l:=x.guards) aW hlt)))),rfl⟩
 ·refine⟨bk (fun g hg=>?_),rfl⟩
  obtain⟨i,hi,e⟩:=List.getElem_of_mem hg
  have:=ha i (by omega)
  rwa [am aW hi,e] at this
def vJ (l:List Vb):aU:=.row 252 im lS l
def Fu (p:ap) (q:aJ) (k:Nat):List Vb:=[⟨0,0,0⟩,⟨1,0,0⟩,⟨2,0,0⟩]++((cA p q).take k).map (fun x=>⟨3,0,x⟩)
def Fv (p:ap) (q:aJ) (k:Nat):List Vb:=Fu p q (cA p q).length++(p.initial.take k).map (fun x=>(⟨4,0,x⟩:Vb))
def Od (p:ap) (q:aJ):List Vb:=if lx p then Fv p q p.initial.length else Fu p q (cA p q).length
def nN (p:ap) (q:aJ) (sch:List Int) (j:Nat):List Vb:=Od p q++(List.range j).flatMap fun j=>dW p sch j p.rules.length
theorem Oe (p:ap) (q:aJ) {k:Nat} (h:k<(cA p q).length):Fu p q (k+1)=Fu p q k++[⟨3,0,(cA p q).getD k 0⟩]:=by
 unfold Fu;rw[bM 0 h,List.map_append,List.append_assoc];rfl
theorem Of (p:ap) (q:aJ) {k:Nat} (h:k<p.initial.length):Fv p q (k+1)=Fv p q k++[⟨4,0,p.initial.getD k 0⟩]:=by
 unfold Fv;rw[bM 0 h,List.map_append,List.append_assoc];rfl
theorem Og (p:ap) (q:aJ):Od p q=[⟨0,0,0⟩,⟨1,0,0⟩,⟨2,0,0⟩]++uF p q:=by
 unfold Od Fv Fu uF
 split
 ·rw[List.take_length,List.take_length,List.append_assoc]
 ·rw[List.take_length,List.append_nil]
theorem CW (p:ap) (q:aJ) (sch:List Int):nN p q sch (sch.length+1)=ao p q sch:=by
 unfold nN ao;rw[Og]
theorem Hy (p:ap) (q:aJ) (sch:List Int) (j:Nat):nN p q sch (j+1)=nN p q sch j++dW p sch j p.rules.length:=by
 unfold nN;rw[List.range_succ,List.flatMap_append,List.append_assoc];simp
theorem vK (p:ap) (sch:List Int) (j:Nat) (l:List Vb):l++dW p sch j 0=l:=by simp[dW]
theorem xh {p:ap} {q:aJ} (hv:bF p q=0) (k:Nat):(Fu p q k).length<=9:=by
 have h:=a9 (bf hv).vld
 have a:=bS (bf hv).start
 have b:=bS h.ini.1
 have c:=h.len
 have d:(cA p q).length<=6:=by unfold cA;split<;>omega
 unfold Fu
 simp only[List.length_append,List.length_cons,List.length_nil,List.length_map,List.length_take]
 omega
theorem CX {p:ap} {q:aJ} (hv:bF p q=0) (k:Nat):(Fv p q k).length<=15:=by
 have h:=a9 (bf hv).vld
 have a:=xh hv (cA p q).length
 have b:=bS h.ini.1
 have c:=h.len
 unfold Fv
 simp only[List.length_append,List.length_map,List.length_take]
 omega
theorem CY {p:ap} {q:aJ} (hv:bF p q=0) {sch:List Int} (hs:dM (aA p.rules).length sch) (j:Nat) (hj:j<=sch.length+1):(nN p q sch j).length<=79:=by
 have w:=a9 (bf hv).vld
 have a:(Od p q).length<=15:=by
  unfold Od
  split
  ·exact CX hv _
  ·have:=xh hv (cA p q).length;omega
 have b:=tG p sch p.rules.length j
 have c:=gf hs
 have d:=w.thr
 have e:=w.len
 have f:2*p.rules.length*j<=16*4:=Nat.mul_le_mul (by omega) (by omega)
 unfold nN
 rw[List.length_append]
 omega
theorem tO (p:ap) (q:aJ) (hv:bF p q=0) (sch:List Int) (hs:dM (aA p.rules).length sch):ab Tryz.prog 115 [.pd (fi p q), .sl 0 ak sch] (fun u=>u= .sl im lS (ao p q sch)):=by
 have w:=a9 (bf hv).vld
 have hle:=w.len
 have hT:=w.thr
 have hsl:=gf hs
 have hst:(cA p q).length<=6:=by
  have a:=bS (bf hv).start
  have b:=bS w.ini.1
  unfold cA;split<;>omega
 have hil:p.initial.length<=6:=by have b:=bS w.ini.1;omega
 refine ab.intro ae ag Tryz.func115 rfl (by decide) ?_;(conv=>whnf)
 refine c7 im lS [⟨0,0,0⟩,⟨1,0,0⟩,⟨2,0,0⟩] rfl ?_
 conv=>whnf
 refine a8.loopF ae ag (fun k:Nat=>k<=(cA p q).length) (fun k=>[(15, .top),(21, .int .i64 (k:Int)),(5, .row 1000 (Fu p q k).length 3)]) (fun k=>[(1000,vJ (Fu p q k))]) (fun k=>(cA p q).length-k) 0 (Nat.zero_le _) ?_;conv=>whnf
 refine⟨bd.by_ [(1000, .old 15)] _ 400 rfl (aa) (aa),?_⟩
 rintro k hk
 conv=>whnf
 refine ai ?_ ?_<;>(intro h1;conv=>whnf)
 ·have hlt:k<(cA p q).length:=by omega
  have hal:=xh hv k
  refine nI ?_
  rw[tN]
  conv=>whnf
  refine c7 im lS [⟨3,0,(cA p q).getD k 0⟩] rfl ?_
  conv=>whnf
  refine di [⟨3,0,(cA p q).getD k 0⟩] rfl lI ?_
  conv=>whnf
  repeat' (refine dt ?_;conv=>whnf)
  refine⟨k+1,?_,by omega,by dsimp only;omega⟩
  dsimp only
  rw[Oe p q hlt]
  exact bd.by_ [(1000, .old 29)] _ 400 rfl (aa) (aa)
 obtain rfl:k=(cA p q).length:=by omega
 refine dC (jo p q) (fun _=>?_) (fun _=>?_)<;>(conv=>whnf)
 ·rename_i hw
  have hC:nN p q sch 0=Fv p q p.initial.length:=by unfold nN Od;rw[if_pos hw];simp
  refine a8.loopF ae ag (fun k:Nat=>k<=p.initial.length) (fun k=>[(39, .int .i64 (k:Int)),(5, .row 1000 (Fv p q k).length 3)]) (fun k=>[(1000,vJ (Fv p q k))]) (fun k=>p.initial.length-k) 0 (Nat.zero_le _) ?_;conv=>whnf
  refine⟨by rw[show Fv p q 0=Fu p q (cA p q).length by unfold Fv;simp];exact sI,?_⟩
  rintro k hk2
  conv=>whnf
  refine ai ?_ ?_<;>(intro h3;conv=>whnf)
  ·have hlt:k<p.initial.length:=by omega
   have hbl:=CX hv k
   refine nI ?_
   rw[tN]
   conv=>whnf
   refine c7 im lS [⟨4,0,p.initial.getD k 0⟩] rfl ?_
   conv=>whnf
   refine di [⟨4,0,p.initial.getD k 0⟩] rfl lI ?_
   conv=>whnf
   repeat' (refine dt ?_;conv=>whnf)
   refine⟨k+1,?_,by omega,by dsimp only;omega⟩
   dsimp only
   rw[Of p q hlt]
   exact bd.by_ [(1000, .old 47)] _ 400 rfl (aa) (aa)
  obtain rfl:k=p.initial.length:=by omega
  refine aI ?_
  conv=>whnf
  refine a8.loopF ae ag (fun j:Nat=>j<=sch.length+1) (fun j=>[(52, .int .i64 (j:Int)),(5, .row 1000 (nN p q sch j).length 3)]) (fun j=>[(1000,vJ (nN p q sch j))]) (fun j=>sch.length+1-j) 0 (Nat.zero_le _) ?_;conv=>whnf
  refine⟨by rw[hC];exact sI,?_⟩
  rintro j hj
  conv=>whnf
  refine ai ?_ ?_<;>(intro h1;conv=>whnf)
  ·have hDl:=CY hv hs j hj
   refine a8.loopF ae ag (fun r:Nat=>r<=p.rules.length) (fun r=>[(61, .int .i64 (r:Int)),(5, .row 1000 (nN p q sch j++dW p sch j r).length 3)]) (fun r=>[(1000,vJ (nN p q sch j++dW p sch j r))]) (fun r=>p.rules.length-r) 0 (Nat.zero_le _) ?_;conv=>whnf
   refine⟨by rw[vK];exact sI,?_⟩
   rintro r hr
   conv=>whnf
   refine ai ?_ ?_<;>(intro h2;conv=>whnf)
   ·have hrl:r<p.rules.length:=by omega
    have hsl:=py p sch j r
    have hll:(nN p q sch j++dW p sch j r).length<=1000:=by rw[List.length_append];omega
    refine dC (zi p q (bf hv).vld sch hs r j hrl (by omega)) (fun _=>?_) (fun _=>?_)<;>(conv=>whnf)
    ·rename_i ha
     refine c7 im lS [⟨5,j,r⟩] rfl ?_
     conv=>whnf
     refine di [⟨5,j,r⟩] rfl lI ?_
     conv=>whnf
     refine dC (jo p q) (fun _=>?_) (fun _=>?_)<;>(conv=>whnf)
     ·rename_i hw
      have e:nN p q sch j++dW p sch j (r+1)=nN p q sch j++dW p sch j r++[⟨5,j,r⟩]++[⟨6,j,r⟩]:=by
       rw[jQ,za,if_pos ha,if_pos hw,List.append_assoc,List.append_assoc];rfl
      refine c7 im lS [⟨6,j,r⟩] rfl ?_
      conv=>whnf
      refine di [⟨6,j,r⟩] rfl (by simp only[List.length_append,List.length_cons,List.length_nil] at hll⊢;omega) ?_
      conv=>whnf
      repeat' (refine dt ?_;conv=>whnf)
      refine⟨r+1,?_,by omega,by dsimp only;omega⟩
      dsimp only
      rw[e]
      exact bd.by_ [(1000, .old 83)] _ 400 rfl (aa) (aa)
     ·rename_i hw
      have e:nN p q sch j++dW p sch j (r+1)=nN p q sch j++dW p sch j r++[⟨5,j,r⟩]:=by
       rw[jQ,za,if_pos ha,if_neg hw,List.append_assoc]
      repeat' (refine dt ?_;conv=>whnf)
      refine⟨r+1,?_,by omega,by dsimp only;omega⟩
      dsimp only
      rw[e]
      exact bd.by_ [(1000, .old 75)] _ 400 rfl (aa) (aa)
    ·rename_i ha
     have e:nN p q sch j++dW p sch j (r+1)=nN p q sch j++dW p sch j r:=by
      rw[jQ,za,if_neg ha,List.append_nil]
     repeat' (refine dt ?_;conv=>whnf)
     refine⟨r+1,?_,by omega,by dsimp only;omega⟩
     dsimp only
     rw[e]
     exact sI
   ·obtain rfl:r=p.rules.length:=by omega
    have e:=Hy p q sch j
    repeat' (refine dt ?_;conv=>whnf)
    refine⟨j+1,?_,by omega,by dsimp only;omega⟩
    dsimp only
    rw[e]
    exact sI
  ·obtain rfl:j=sch.length+1:=by omega
   rw[CW]
   exact⟨rfl,rfl⟩
 ·rename_i hw
  have hC:nN p q sch 0=Fu p q (cA p q).length:=by unfold nN Od;rw[if_neg hw];simp
  refine aI ?_
  conv=>whnf
  refine a8.loopF ae ag (fun j:Nat=>j<=sch.length+1) (fun j=>[(52, .int .i64 (j:Int)),(5, .row 1000 (nN p q sch j).length 3)]) (fun j=>[(1000,vJ (nN p q sch j))]) (fun j=>sch.length+1-j) 0 (Nat.zero_le _) ?_;conv=>whnf
  refine⟨by rw[hC];exact sI,?_⟩
  rintro j hj
  conv=>whnf
  refine ai ?_ ?_<;>(intro h1;conv=>whnf)
  ·have hDl:=CY hv hs j hj
   refine a8.loopF ae ag (fun r:Nat=>r<=p.rules.length) (fun r=>[(61, .int .i64 (r:Int)),(5, .row 1000 (nN p q sch j++dW p sch j r).length 3)]) (fun r=>[(1000,vJ (nN p q sch j++dW p sch j r))]) (fun r=>p.rules.length-r) 0 (Nat.zero_le _) ?_;conv=>whnf
   refine⟨by rw[vK];exact sI,?_⟩
   rintro r hr
   conv=>whnf
   refine ai ?_ ?_<;>(intro h2;conv=>whnf)
   ·have hrl:r<p.rules.length:=by omega
    have hsl:=py p sch j r
    have hll:(nN p q sch j++dW p sch j r).length<=1000:=by rw[List.length_append];omega
    refine dC (zi p q (bf hv).vld sch hs r j hrl (by omega)) (fun _=>?_) (fun _=>?_)<;>(conv=>whnf)
    ·rename_i ha
     refine c7 im lS [⟨5,j,r⟩] rfl ?_
     conv=>whnf
     refine di [⟨5,j,r⟩] rfl lI ?_
     conv=>whnf
     refine dC (jo p q) (fun _=>?_) (fun _=>?_)<;>(conv=>whnf)
     ·rename_i hw
      have e:nN p q sch j++dW p sch j (r+1)=nN p q sch j++dW p sch j r++[⟨5,j,r⟩]++[⟨6,j,r⟩]:=by
       rw[jQ,za,if_pos ha,if_pos hw,List.append_assoc,List.append_assoc];rfl
      refine c7 im lS [⟨6,j,r⟩] rfl ?_
      conv=>whnf
      refine di [⟨6,j,r⟩] rfl (by simp only[List.length_append,List.length_cons,List.length_nil] at hll⊢;omega) ?_
      conv=>whnf
      repeat' (refine dt ?_;conv=>whnf)
      refine⟨r+1,?_,by omega,by dsimp only;omega⟩
      dsimp only
      rw[e]
      exact bd.by_ [(1000, .old 83)] _ 400 rfl (aa) (aa)
     ·rename_i hw
      have e:nN p q sch j++dW p sch j (r+1)=nN p q sch j++dW p sch j r++[⟨5,j,r⟩]:=by
       rw[jQ,za,if_pos ha,if_neg hw,List.append_assoc]
      repeat' (refine dt ?_;conv=>whnf)
      refine⟨r+1,?_,by omega,by dsimp only;omega⟩
      dsimp only
      rw[e]
      exact bd.by_ [(1000, .old 75)] _ 400 rfl (aa) (aa)
    ·rename_i ha
     have e:nN p q sch j++dW p sch j (r+1)=nN p q sch j++dW p sch j r:=by
      rw[jQ,za,if_neg ha,List.append_nil]
     repeat' (refine dt ?_;conv=>whnf)
     refine⟨r+1,?_,by omega,by dsimp only;omega⟩
     dsimp only
     rw[e]
     exact sI
   ·obtain rfl:r=p.rules.length:=by omega
    have e:=Hy p q sch j
    repeat' (refine dt ?_;conv=>whnf)
    refine⟨j+1,?_,by omega,by dsimp only;omega⟩
    dsimp only
    rw[e]
    exact sI
  ·obtain rfl:j=sch.length+1:=by omega
   rw[CW]
   exact⟨rfl,rfl⟩
def Oh (p:ap) (q:aJ) (sch:List Int):AV:=if dL p q≠0 then .tup [.nilsl, .int .i64 (dL p q)] else if¬dM (aA p.rules).length sch then .tup [.nilsl, .int .i64 1] else .tup [.sl im lS (ao p q sch), .int .i64 0]
theorem eM {p:ap} {q:aJ} (h:dL p q=0):bF p q=0:=by
 refine Classical.byContradiction fun hh=>?_
 rw[dL,if_pos hh] at h
 exact hh h
theorem CZ {p:ap} {q:aJ} (h:dL p q=0):io p/\qG p q:=by
 have h1:=eM h
 rw[dL,if_neg (by omega)] at h
 refine Classical.byContradiction fun hh=>?_
 rw[if_pos hh] at h
 omega
theorem Hz {p:ap} {q:aJ} (h:dL p q=0):w6 p q<=64:=by
 have h1:=eM h
 have h2:=CZ h
 rw[dL,if_neg (by omega),if_neg (fun hh=>hh h2)] at h
 refine Classical.byContradiction fun hh=>?_
 rw[if_pos (by omega)] at h
 omega
theorem BB (p:ap) (q:aJ) (hp:qz p) (hq:Bj q) (sch:List Int) (hl:sch.length<=140737488355328):ab Tryz.prog 47 [.agg (dg p), .agg (mK q), .sl 0 ak sch] (fun u=>u=Oh p q sch):=by
 have he:=Oh.eq_1 p q sch
 refine ab.intro ae ag Tryz.func47 rfl (by decide) ?_;(conv=>whnf)
 refine ar rfl ?_
 conv=>whnf
 refine ar rfl ?_
 conv=>whnf
 refine aj.of_pure (n:=5) (vG p q hp hq) (by rfl) ?_
 rintro _ rfl
 by_cases h:dL p q=0
 ·rw[if_neg (by omega)] at he
  rw[jR h]
  conv=>whnf
  refine fI ?_
  conv=>whnf
  refine dC (qK p q sch hl) (fun _=>?_) (fun _=>?_)<;>(conv=>whnf)
  ·rename_i hs
   rw[if_neg (fun hh=>hh hs)] at he
   (refine oP (tO p q (eM h) sch hs) ?_;conv=>whnf)
   exact⟨he.symm,rfl⟩
  ·rename_i hs
   rw[if_pos hs] at he
   exact⟨he.symm,rfl⟩
 ·rw[if_pos h] at he
  rw[g9 rfl h]
  conv=>whnf
  refine dQ h ?_
  conv=>whnf
  exact⟨he.symm,rfl⟩
end Go.Proofs.YtekmminpfhacpaaGreatDoor
