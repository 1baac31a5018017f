import Derived.Test.YtnjggjhkfncnlaaGreatDoorFwX
set_option linter.unusedVariables false
set_option linter.unusedSimpArgs false
namespace Go.Proofs.YtnjggjhkfncnlaaGreatDoor
set_option maxRecDepth 100000
set_option maxHeartbeats 16000000
theorem KH {p:au} (hv:aB p=0):Ir p:=by
 have hb:=dZ hv
 have hle:=b7 hb
 exact⟨by omega,fun j hj=>by have:=fE (fm hb hj);omega⟩
def ez (p:au) (q:aV):List AV:=[.str p.name, .int .i64 p.topology, .sl t0 dX p.states, .sl t0 dX p.messages, .sl t0 dX p.values, .int .i64 p.fault, .sl dc bM p.resilience, .sl 0 an p.initial, .sl 0 an p.leader, .sl ar dF p.rules,
 .str q.name, .int .i64 q.kind, .sl 0 an q.start, .sl bP gz q.bad, .sl 0 an q.adjacent, .sl 0 an q.goal, .sl aE bT (aA p.rules), .sl 0 an (ca p q), .int .i64 (ta p q:Int)]
def Kc (p:au) (q:aV) (k:Int):List AV:=[.str p.name, .int .i64 p.topology, .sl t0 dX p.states, .sl t0 dX p.messages, .sl t0 dX p.values, .int .i64 p.fault, .sl dc bM p.resilience, .sl 0 an p.initial, .sl 0 an p.leader, .sl ar dF p.rules,
 .str q.name, .int .i64 q.kind, .sl 0 an q.start, .sl bP gz q.bad, .sl 0 an q.adjacent, .sl 0 an q.goal, .sl aE bT (aA p.rules), .sl 0 an (ca p q), .int .i64 k]
theorem vn (p:au) (hp:gM p) (hv:aB p=0):ab Tryz.prog 68 [.agg (aO p)] (fun u=>u= .tup [.sl aE bT (aA p.rules), .int .i64 0]):=by
 refine ab.intro ac ag Tryz.func68 rfl (by decide) ?_;(conv=>whnf)
 refine al rfl ?_
 conv=>whnf
 (refine oP (fo p hp) ?_;conv=>whnf)
 refine fI ?_
 conv=>whnf
 (refine oP (ob p (KH hv)) ?_;conv=>whnf)
 exact⟨rfl,rfl⟩
theorem lU (l:List Int) (h0:0<l.length) (hl:l.length<=1000):ab Tryz.prog 98 [.sl 0 an l] (fun u=>u= .sl 0 an l):=by
 refine ab.intro ac ag Tryz.func98 rfl (by decide) ?_;(conv=>whnf)
 refine bI (fun e=>by rw[e] at h0;simp at h0) ?_
 conv=>whnf
 refine bw 0 an [] rfl ?_
 conv=>whnf
 refine bD _ rfl (by simp only[List.length_nil];omega) ?_
 conv=>whnf
 exact⟨rfl,rfl⟩
theorem Fe (p:au) (q:aV) (hv:aZ p q=0):ab Tryz.prog 86 [.agg (aO p), .agg (fg q)] (fun u=>u= .tup [.sl 0 an (ca p q), .int .i64 0]):=by
 have hq:=vg hv
 have hp:=dZ (aQ hv).vld
 have hle:=b7 hp
 have hlq:=sY hq
 have hi:=(aK (aQ hv).vld).ini
 have he:=ca.eq_1 p q
 refine ab.intro ac ag Tryz.func86 rfl (by decide) ?_;(conv=>whnf)
 refine al rfl ?_
 conv=>whnf
 refine al rfl ?_
 conv=>whnf
 (refine oP (rJ p q (pL hp) (GY hq)) ?_;conv=>whnf)
 refine fI ?_
 conv=>whnf
 refine ah ?_ ?_<;>(intro h1;conv=>whnf)
 ·rw[if_pos (by omega)] at he
  (refine oP (lU q.start (by omega) (by omega)) ?_;conv=>whnf)
  exact⟨he▸rfl,rfl⟩
 ·rw[if_neg (by omega)] at he
  (refine oP (lU p.initial (by omega) (by omega)) ?_;conv=>whnf)
  exact⟨he▸rfl,rfl⟩
theorem zN (p:au) (q:aV) (hp:gM p) (hq:qP q) (hv:aZ p q≠0):ab Tryz.prog 86 [.agg (aO p), .agg (fg q)] (fun u=>u= .tup [.nilsl, .int .i64 (aZ p q)]):=by
 refine ab.intro ac ag Tryz.func86 rfl (by decide) ?_;(conv=>whnf)
 refine al rfl ?_
 conv=>whnf
 refine al rfl ?_
 conv=>whnf
 (refine oP (rJ p q hp hq) ?_;conv=>whnf)
 refine da hv ?_
 conv=>whnf
 exact⟨rfl,rfl⟩
theorem zO (x:bp) (q:aV) (hq:q.goal.length<=4503599627370496):ab Tryz.prog 163 [.agg (dF x), .pd (fg q)] (fun u=>u= .bool (decide (x.src∈q.goal/\x.dst∉q.goal))):=by
 refine ab.intro ac ag Tryz.func163 rfl (by decide) ?_;(conv=>whnf)
 refine al rfl ?_
 conv=>whnf
 refine dC (bV q.goal _ hq) (fun _=>?_) (fun _=>?_)<;>(conv=>whnf)
 ·rename_i h1
  refine dC (bV q.goal _ hq) (fun _=>?_) (fun _=>?_)<;>(conv=>whnf)
  ·rename_i h2;exact⟨aq (fun h=>h.2 h2),rfl⟩
  ·rename_i h2;exact⟨az ⟨h1,h2⟩,rfl⟩
 ·rename_i h1;exact⟨aq (fun h=>h1 h.1),rfl⟩
def zP (l:List bp) (q:aV):Prop:=∃j,j<l.length/\(l.getD j ar).src∈q.goal/\(l.getD j ar).dst∉q.goal
instance (l:List bp) (q:aV):Decidable (zP l q):=inferInstanceAs (Decidable (∃j,j<l.length/\_))
theorem Cs (l:List bp) (q:aV) (hl:l.length<=4503599627370496) (hq:q.goal.length<=4503599627370496):ab Tryz.prog 212 [.sl ar dF l, .fn 163 [.pd (fg q)]] (fun u=>∃n:Int,u= .int .i64 n/\(0<=n↔zP l q)):=by
 refine ab.intro ac ag Tryz.func212 rfl (by decide) ?_;(conv=>whnf)
 refine aH.loopF ac ag (fun k:Nat=>k<=l.length/\∀j,j<k->¬((l.getD j ar).src∈q.goal/\(l.getD j ar).dst∉q.goal)) (fun k=>[(8, .int .i64 (k:Int))]) (fun _=>[]) (fun k=>l.length-k) 0 ⟨by omega,fun j hj=>by omega⟩ ?_;conv=>whnf
 refine⟨sI,?_⟩
 rintro k ⟨hk,ha⟩
 conv=>whnf
 refine ah ?_ ?_<;>(intro h1;conv=>whnf)
 ·refine nI ?_
  rw[tN]
  conv=>whnf
  refine dC (zO (l.getD k ar) q hq) (fun _=>?_) (fun _=>?_)<;>(conv=>whnf)
  ·rename_i h2
   exact⟨⟨k,rfl,fun _=>⟨k,by omega,h2⟩,fun _=>by omega⟩,rfl⟩
  ·rename_i h2
   repeat' ((first|refine nI ?_|refine aI ?_|refine dz trivial (by omega) ?_|refine dV trivial (by omega) ?_|refine dI ?_|refine dR ?_|refine dP ?_|refine al rfl ?_|refine pI _ rfl ?_|refine ap _ rfl ?_|refine tI ?_|refine fI ?_|refine ah (fun _=>?_) (fun _=>?_))<;>conv=>whnf)
   refine⟨k+1,sI,⟨by omega,fun j hj=>?_⟩,by dsimp only;omega⟩
   by_cases e:j=k
   ·subst e;exact h2
   ·exact ha j (by omega)
 ·exact⟨⟨-1,rfl,fun h=>by omega,fun⟨j,h1,h2⟩=>absurd h2 (ha j (by omega))⟩,rfl⟩
theorem Ct (l:List bp) (q:aV) (hl:l.length<=4503599627370496) (hq:q.goal.length<=4503599627370496):ab Tryz.prog 162 [.sl ar dF l, .fn 163 [.pd (fg q)]] (fun u=>u= .bool (decide (zP l q))):=by
 refine ab.intro ac ag Tryz.func162 rfl (by decide) ?_;(conv=>whnf)
 refine ak.of_pure (n:=5) (Cs l q hl hq) rfl ?_
 rintro _ ⟨n,rfl,hn⟩
 conv=>whnf
 refine ah ?_ ?_<;>(intro h;conv=>whnf)
 ·exact⟨az (hn.1 h),rfl⟩
 ·exact⟨aq (fun hh=>h (hn.2 hh)),rfl⟩
theorem Cu (p:au) (q:aV) (hk:q.kind=1\/q.kind=2) (hl:p.rules.length<=4503599627370496) (hq:q.goal.length<=4503599627370496):ab Tryz.prog 88 [.agg (aO p), .agg (fg q)] (fun u=>u= .bool (decide (lO p q))):=by
 have key:q.kind=2->(lO p q↔¬zP p.rules q):=fun h2=>by
  unfold lO zP
  constructor
  ·rintro h ⟨j,h3,h4,h5⟩;exact h5 (h h2 j h3 h4)
  ·intro h _ j h3 h4
   exact Classical.byContradiction fun h5=>h ⟨j,h3,h4,h5⟩
 refine ab.intro ac ag Tryz.func88 rfl (by decide) ?_;(conv=>whnf)
 refine al rfl ?_
 conv=>whnf
 refine al rfl ?_
 conv=>whnf
 refine ah ?_ ?_<;>(intro h;conv=>whnf)
 ·exact⟨az (fun h2=>by omega),rfl⟩
 ·have k:=key (by omega)
  refine ak.borrow (n:=5) (Ct p.rules q hl hq) rfl (by rintro _ rfl;rfl) ?_
  rintro _ rfl
  by_cases ho:zP p.rules q
  ·rw[decide_eq_true ho]
   conv=>whnf
   exact⟨aq (fun h=>k.1 h ho),rfl⟩
  ·rw[decide_eq_false ho]
   conv=>whnf
   exact⟨az (k.2 ho),rfl⟩
def vo (p:au) (q:aV):AV:=if cV p q=0 then .tup [.pd (ez p q), .int .i64 0] else .tup [.val (.pointer none), .int .i64 (cV p q)]
theorem gg {p:au} {q:aV} {e:Int} (h:cV p q=e) (h0:e≠0):vo p q= .tup [.val (.pointer none), .int .i64 e]:=by unfold vo;rw[if_neg (by omega),h]
theorem iL {p:au} {q:aV} (h:cV p q=0):vo p q= .tup [.pd (ez p q), .int .i64 0]:=by unfold vo;rw[if_pos h]
theorem dl {p:au} (hv:aB p=0):∀j,j<p.rules.length->(p.rules.getD j ar).guards.length<=2:=fun j hj=>by
 have v:=aK hv
 obtain⟨_,_,h3,_,_,h6⟩:=hH (v.rul j hj)
 by_cases k:(p.rules.getD j ar).kind=1
 ·unfold c7 at h6
  rw[if_pos k] at h6
  exact pQ (ci h6 (aG p.messages.length (p.rules.getD j ar).guards) (by simp))
 ·unfold il at h3;omega
theorem Gb {p:au} (hv:aB p=0) {k:Nat} (hk:k<=p.rules.length):rL p.rules k<=6561:=by
 have a:=BV (dl hv) k hk
 have b:=(aK hv).len
 have c:(3:Nat)^k<=3^8:=Nat.pow_le_pow_right (by omega) (by omega)
 omega
theorem rR (p:au) (q:aV) (hp:gM p) (hq:qP q):ab Tryz.prog 36 [.agg (aO p), .agg (fg q)] (fun u=>u=vo p q):=by
 have he:=cV.eq_1 p q
 have hle:=iT hp
 have hlq:=sZ hq
 refine ab.intro ac ag Tryz.func36 rfl (by decide) ?_;(conv=>whnf)
 refine al rfl ?_
 conv=>whnf
 refine al rfl ?_
 conv=>whnf
 by_cases h1:aZ p q=0
 case neg=>
  rw[if_pos h1] at he
  (refine oP (zN p q hp hq h1) ?_;conv=>whnf)
  refine da h1 ?_
  conv=>whnf
  exact⟨(gg he h1).symm,rfl⟩
 rw[if_neg (by omega)] at he
 have w:=aQ h1
 have hv:=w.vld
 (refine oP (Fe p q h1) ?_;conv=>whnf)
 refine fI ?_
 conv=>whnf
 refine ak.of_pure (n:=5) (Hl p hp hv) rfl ?_
 rintro _ ⟨b,c,d,e,rfl⟩
 by_cases ht:io p
 case neg=>
  rw[decide_eq_false ht]
  rw[if_pos (fun h=>ht h.1)] at he
  conv=>whnf
  exact⟨(gg he (by omega)).symm,rfl⟩
 rw[decide_eq_true ht]
 conv=>whnf
 refine dC (Cu p q w.kind (by omega) (by omega)) (fun _=>?_) (fun _=>?_)<;>(conv=>whnf)
 case refine_2=>
  rename_i hs
  rw[if_pos (fun h=>hs h.2)] at he
  exact⟨(gg he (by omega)).symm,rfl⟩
 rename_i hs
 rw[if_neg (fun h=>h ⟨ht,hs⟩)] at he
 (refine oP (vn p hp hv) ?_;conv=>whnf)
 refine wi ?_
 conv=>whnf
 refine ah ?_ ?_<;>(intro hk;conv=>whnf)
 ·have hN:ta p q=rL p.rules p.rules.length:=by unfold ta;rw[if_pos hk]
  refine aH.loopF ac ag (fun k:Nat=>k<=p.rules.length) (fun k=>[(55, .int .i64 (k:Int)),(12, .ptr 48 0)]) (fun k=>[(8, .box 148 [.bool true, .bool b, .bool c, .bool d, .bool e]),(48, .box 103 (Kc p q (rL p.rules k:Int)))]) (fun k=>p.rules.length-k) 0 (Nat.zero_le _) ?_;conv=>whnf
  refine⟨sI,?_⟩
  rintro k hk'
  conv=>whnf
  refine ah ?_ ?_<;>(intro h2;conv=>whnf)
  ·have hlt:k<p.rules.length:=by omega
   refine nI ?_
   rw[tN]
   conv=>whnf
   have hg:=dl hv k hlt
   have hc:=Gb hv (k:=k) (by omega)
   have hn:(rL p.rules (k+1):Int)=(rL p.rules k:Int)*(1+((p.rules.getD k ar).guards.length:Int)):=by rw[rL];push_cast;rfl
   have hb:(rL p.rules k:Int)*(1+((p.rules.getD k ar).guards.length:Int))<=6561*3:=Int.mul_le_mul (by omega) (by omega) (by omega) (by omega)
   have hb0:0<=(rL p.rules k:Int)*(1+((p.rules.getD k ar).guards.length:Int)):=Int.mul_nonneg (by omega) (by omega)
   first|refine dI ?_|refine mm (by decide+kernel) ?_
   conv=>whnf
   refine aI ?_
   conv=>whnf
   refine aI ?_
   conv=>whnf
   repeat' ((first|refine nI ?_|refine aI ?_|refine tI ?_|refine fI ?_|fail);conv=>whnf)
   refine⟨k+1,?_,by omega,by dsimp only;omega⟩
   dsimp only
   rw[hn]
   exact sI
  ·obtain rfl:k=p.rules.length:=by omega
   rw[<-hN]
   refine ah ?_ ?_<;>(intro h3;conv=>whnf)
   ·rw[if_pos (by omega)] at he
    exact⟨(gg he (by omega)).symm,rfl⟩
   ·rw[if_neg (by omega)] at he
    exact⟨(iL he).symm,rfl⟩
 ·have hN:ta p q=1:=by unfold ta;rw[if_neg hk]
  rw[hN,if_neg (by omega)] at he
  repeat' ((first|refine nI ?_|refine aI ?_|refine tI ?_|refine fI ?_|fail);conv=>whnf)
  refine⟨?_,rfl⟩
  rw[iL he]
  unfold ez
  rw[hN]
  rfl
theorem Hm (p:au) (q:aV) (hp:gM p) (hq:qP q):ab Tryz.prog 35 [.agg (aO p), .agg (fg q)] (fun u=>u= .int .i64 (cV p q)):=by
 refine ab.intro ac ag Tryz.func35 rfl (by decide) ?_;(conv=>whnf)
 refine al rfl ?_
 conv=>whnf
 refine al rfl ?_
 conv=>whnf
 refine ak.of_pure (n:=5) (rR p q hp hq) (by rfl) ?_
 rintro _ rfl
 by_cases h:cV p q=0
 ·rw[iL h]
  conv=>whnf
  exact⟨ae h.symm,rfl⟩
 ·rw[gg rfl h]
  conv=>whnf
  exact⟨rfl,rfl⟩
def qE:List eg->eg->Int
 |[],_=>-1
 |a::l,g=>if a=g then 0 else if qE l g<0 then -1 else qE l g+1
theorem vp {g:eg}:∀{l:List eg},g∉l->qE l g=-1
 |[],_=>rfl
 |a::l,h=>by
  rw[List.mem_cons,not_or] at h
  rw[qE,if_neg (fun e=>h.1 e.symm),vp h.2,if_pos (by omega)]
theorem Cw {g:eg}:∀{l:List eg} {k:Nat},k<l.length->g∉l.take k->l.getD k aE=g->qE l g=(k:Int)
 |[],k,h,_,_=>by simp at h
 |a::l,0,_,_,h=>by rw[qE,if_pos (show a=g from h)];rfl
 |a::l,k+1,h,h1,h2=>by
  rw[List.take_succ_cons,List.mem_cons,not_or] at h1
  have:=Cw (l:=l) (k:=k) (by simpa using h) h1.2 h2
  rw[qE,if_neg (fun e=>h1.1 e.symm),this,if_neg (by omega)]
  omega
theorem ym (g:eg):∀l:List eg,-1<=qE l g/\qE l g<l.length
 |[]=>by simp[qE]
 |a::l=>by
  have:=ym g l
  rw[qE]
  simp only[List.length_cons]
  split
  ·omega
  ·split<;>omega
theorem yn {g:eg}:∀{l:List eg},g∈l->0<=qE l g/\l.getD (qE l g).toNat aE=g
 |a::l,h=>by
  rw[qE]
  by_cases e:a=g
  ·rw[if_pos e];exact⟨by omega,e⟩
  ·rw[if_neg e]
   obtain⟨h1,h2⟩:=yn (l:=l) (by rcases List.mem_cons.1 h with h|h;exact absurd h.symm e;exact h)
   rw[if_neg (by omega)]
   refine⟨by omega,?_⟩
   rw[show(qE l g+1).toNat=(qE l g).toNat+1 by omega]
   exact h2
theorem xd {acc:List eg} {g:eg} (h:acc.Nodup):(im acc g).Nodup:=by
 unfold im
 split
 ·exact h
 ·rename_i hm
  rw[List.nodup_append]
  exact⟨h,by simp,fun a ha b hb e=>by rw[List.mem_singleton] at hb;subst hb;subst e;exact hm ha⟩
theorem og:∀(gs acc:List eg),acc.Nodup->(gs.foldl im acc).Nodup
 |[],_,h=>h
 |g::gs,acc,h=>og gs _ (xd h)
theorem xf (rs:List bp):(aA rs).Nodup:=og _ _ (by simp)
theorem Cx {acc:List eg} {g x:eg} (h:x∈acc):x∈im acc g:=by
 unfold im
 split
 ·exact h
 ·exact List.mem_append_left _ h
theorem zQ (acc:List eg) (g:eg):g∈im acc g:=by
 unfold im
 split
 ·assumption
 ·exact List.mem_append_right _ (List.mem_singleton.2 rfl)
theorem rS:∀(gs acc:List eg) (x:eg),x∈acc\/x∈gs->x∈gs.foldl im acc
 |[],_,x,h=>by rcases h with h|h;exact h;cases h
 |g::gs,acc,x,h=>by
  rw[List.foldl_cons]
  refine rS gs _ x ?_
  rcases h with h|h
  ·exact .inl (Cx h)
  ·rcases List.mem_cons.1 h with rfl|h
   ·exact .inl (zQ acc x)
   ·exact .inr h
theorem Cy {rs:List bp} {j:Nat} (hj:j<rs.length) {g:eg} (h:g∈(rs.getD j ar).guards):g∈aA rs:=by
 refine rS _ _ g (.inr (List.mem_flatMap.2 ⟨rs.getD j ar,aP _ hj,h⟩))
theorem Cz {T:List eg} (hn:T.Nodup) {g:eg} (hg:g∈T) {sch:List Int} (hs:cM T.length sch) {j:Nat} (hj:j<=sch.length):qE T g∈sch.take j↔∃i,i<j/\T.getD (sch.getD i 0).toNat aE=g:=by
 obtain⟨h0,h1⟩:=yn hg
 have hr:=ym g T
 constructor
 ·intro h
  obtain⟨i,hi,e⟩:=List.mem_take_iff_getElem.1 h
  refine⟨i,by omega,?_⟩
  rw[ay 0 (by omega),e]
  exact h1
 ·rintro⟨i,hi,e⟩
  have hb:=(hs i (by omega)).1
  have e2:sch.getD i 0=qE T g:=by
   have a:(sch.getD i 0).toNat<T.length:=by omega
   have b:(qE T g).toNat<T.length:=by omega
   rw[ay aE a] at e
   rw[ay aE b] at h1
   have:=(List.getElem_inj hn).1 (e.trans h1.symm)
   omega
  exact List.mem_take_iff_getElem.2 ⟨i,by omega,by rw[<-e2,ay 0 (by omega)]⟩
theorem zR (l:List eg) (g:eg) (hl:l.length<=4503599627370496):ab Tryz.prog 206 [.sl aE bT l, .agg (bT g)] (fun u=>u= .int .i64 (qE l g)):=by
 refine ab.intro ac ag Tryz.func206 rfl (by decide) ?_;(conv=>whnf)
 refine al rfl ?_
 conv=>whnf
 refine aH.loopF ac ag (fun k:Nat=>k<=l.length/\g∉l.take k) (fun k=>[(8, .int .i64 (k:Int))]) (fun _=>[]) (fun k=>l.length-k) 0 ⟨by omega,by simp⟩ ?_;conv=>whnf
 refine⟨sI,?_⟩
 rintro k ⟨hk,ha⟩
 conv=>whnf
 repeat' ((first|refine nI ?_|refine aI ?_|refine dz trivial (by omega) ?_|refine dV trivial (by omega) ?_|refine dI ?_|refine dR ?_|refine dP ?_|refine al rfl ?_|refine pI _ rfl ?_|refine ap _ rfl ?_|refine tI ?_|refine fI ?_|refine ah (fun _=>?_) (fun _=>?_))<;>conv=>whnf)
 ·rename_i h1 h2
  rw[tN] at h2
  have h2:g=l.getD k aE:=g8.1 h2
  refine⟨ae ?_,rfl⟩
  rw[Cw (by omega) ha h2.symm]
 ·rename_i h1 h2
  rw[tN] at h2
  refine⟨k+1,sI,⟨by omega,?_⟩,by dsimp only;omega⟩
  rw[bl aE (by omega),List.mem_append,List.mem_singleton,not_or]
  exact⟨ha,fun e=>h2 (g8.2 e)⟩
 ·obtain rfl:k=l.length:=by omega
  rw[List.take_length] at ha
  exact⟨ae (vp ha).symm,rfl⟩
theorem hZ (p:au) (q:aV):ab Tryz.prog 94 [.pd (ez p q)] (fun u=>u= .bool (decide (gq p))):=by
 refine ab.intro ac ag Tryz.func94 rfl (by decide) ?_;(conv=>whnf)
 refine ah ?_ ?_<;>(intro h;conv=>whnf)
 ·exact⟨az (.inl h),rfl⟩
 ·refine ah ?_ ?_<;>(intro h2;conv=>whnf)
  ·exact⟨az (.inr h2),rfl⟩
  ·exact⟨aq (fun hh=>by rcases hh with hh|hh;exact h hh;exact h2 hh),rfl⟩
theorem nG (p:au) (q:aV) (l:List Int) (hl:l.length<=140737488355328):ab Tryz.prog 37 [.pd (ez p q), .sl 0 an l] (fun u=>u= .bool (decide (cM (aA p.rules).length l))):=by
 refine ab.intro ac ag Tryz.func37 rfl (by decide) ?_;(conv=>whnf)
 refine aH.loopF ac ag (fun k:Nat=>k<=l.length/\∀i,i<k->(0<=l.getD i 0/\l.getD i 0<(aA p.rules).length)/\l.getD i 0∉l.take i) (fun k=>[(9, .int .i64 (k:Int))]) (fun _=>[]) (fun k=>l.length-k) 0 ⟨by omega,fun i hi=>by omega⟩ ?_;conv=>whnf
 refine⟨sI,?_⟩
 rintro k ⟨hk,ha⟩
 conv=>whnf
 refine ah ?_ ?_<;>(intro h1;conv=>whnf)
 ·have hlt:k<l.length:=by omega
  refine nI ?_
  rw[tN]
  conv=>whnf
  refine ah ?_ ?_<;>(intro h2;conv=>whnf)
  ·exact⟨aq (fun h=>by have:=(h k hlt).1.1;omega),rfl⟩
  refine ah ?_ ?_<;>(intro h3;conv=>whnf)
  ·exact⟨aq (fun h=>by have:=(h k hlt).1.2;omega),rfl⟩
  refine nI ?_
  rw[tN]
  conv=>whnf
  refine dC (bV (l.take k) (l.getD k 0) (by simp;omega)) (fun _=>?_) (fun _=>?_)<;>(conv=>whnf)
  ·rename_i h4
   exact⟨aq (fun h=>(h k hlt).2 h4),rfl⟩
  ·rename_i h4
   repeat' ((first|refine nI ?_|refine aI ?_|refine tI ?_|refine fI ?_|fail);conv=>whnf)
   refine⟨k+1,sI,⟨by omega,fun i hi=>?_⟩,by dsimp only;omega⟩
   by_cases e:i=k
   ·subst e;exact⟨⟨by omega,by omega⟩,h4⟩
   ·exact ha i (by omega)
 ·exact⟨az (fun i hi=>ha i (by omega)),rfl⟩
def CA (p:au) (number m:Nat):List Int:=List.replicate (p.rules.length-m) 0++(oe p number).drop (p.rules.length-m)
theorem vr (p:au) (number:Nat):CA p number 0=List.replicate p.rules.length 0:=by
 unfold CA
 rw[Nat.sub_zero,List.drop_of_length_le (by rw[jI];omega),List.append_nil]
theorem yo (p:au) (number:Nat):CA p number p.rules.length=oe p number:=by
 unfold CA
 rw[Nat.sub_self]
 simp
theorem yp (p:au) {number m:Nat} (h:m<=p.rules.length):(CA p number m).length=p.rules.length:=by
 unfold CA
 rw[List.length_append,List.length_replicate,List.length_drop,jI]
 omega
theorem CB (p:au) {number m:Nat} (h:m<p.rules.length):(CA p number m).set (p.rules.length-1-m) (w5 p.rules number (p.rules.length-1-m):Int)=CA p number (m+1):=by
 unfold CA
 have e1:p.rules.length-m=(p.rules.length-1-m)+1:=by omega
 have e2:p.rules.length-(m+1)=p.rules.length-1-m:=by omega
 have e3:(oe p number).drop (p.rules.length-1-m)=(w5 p.rules number (p.rules.length-1-m):Int)::(oe p number).drop (p.rules.length-1-m+1):=by
  rw[List.drop_eq_getElem_cons (by rw[jI];omega)]
  congr 1
  rw[<-oG (by omega),ay 0 (by rw[jI];omega)]
 rw[e1,e2,e3,List.replicate_succ',List.append_assoc,List.set_append_right _ _ (by simp)]
 simp
theorem Ff (p:au) (q:aV) (hv:aB p=0) (number:Nat) (hn:number<=1000000):ab Tryz.prog 171 [.pd (ez p q), .int .i64 (number:Int)] (fun u=>u=if q.kind=1 then .nilsl else .sl 0 an (oe p number)):=by
 have hl:=(aK hv).len
 refine ab.intro ac ag Tryz.func171 rfl (by decide) ?_;(conv=>whnf)
 refine ah ?_ ?_<;>(intro hk;conv=>whnf)
 ·exact⟨by rw[if_pos hk];rfl,rfl⟩
 rw[if_neg hk]
 refine xF 0 an 0 rfl (by dsimp only;omega) ?_
 rw[tN]
 conv=>whnf
 refine aI ?_
 conv=>whnf
 have hch:∀m,qQ p.rules number m<=number:=by
  intro m
  induction m with
  |zero=>exact Nat.le_refl _
  |succ m ih=>rw[qQ];exact Nat.le_trans (Nat.div_le_self _ _) ih
 refine aH.loopF ac ag (fun m:Nat=>m<=p.rules.length) (fun m=>[(6, .int .i64 ((p.rules.length:Int)-1-(m:Int))),(1, .int .i64 (qQ p.rules number m:Int))]) (fun m=>[(20,bv (CA p number m))]) (fun m=>p.rules.length-m) 0 (Nat.zero_le _) ?_;conv=>whnf
 refine⟨by rw[vr];exact sI,?_⟩
 rintro m hm
 conv=>whnf
 refine ah ?_ ?_<;>(intro h1;conv=>whnf)
 ·have hlt:m<p.rules.length:=by omega
  have ei:((p.rules.length:Int)-1-(m:Int)).toNat=p.rules.length-1-m:=by omega
  refine nI ?_
  rw[ei]
  conv=>whnf
  have hg:=dl hv (p.rules.length-1-m) (by omega)
  have hc:=hch m
  have hup:=CB p (number:=number) hlt
  have ed:w5 p.rules number (p.rules.length-1-m)=qQ p.rules number m % (1+(p.rules.getD (p.rules.length-1-m) ar).guards.length):=by unfold w5;rw[show p.rules.length-1-(p.rules.length-1-m)=m by omega]
  have eq:qQ p.rules number (m+1)=qQ p.rules number m / (1+(p.rules.getD (p.rules.length-1-m) ar).guards.length):=rfl
  have hlen:=yp p (number:=number) (m:=m) (by omega)
  generalize (p.rules.getD (p.rules.length-1-m) ar).guards.length=g at hg ed eq
  have e1g:(1+(g:Int))=((1+g:Nat):Int):=by push_cast;rfl
  have et:((qQ p.rules number m:Nat):Int).tdiv (1+(g:Int))=((qQ p.rules number (m+1):Nat):Int):=by rw[e1g,eq,Int.ofNat_tdiv]
  have er:((qQ p.rules number m:Nat):Int).tmod (1+(g:Int))=((w5 p.rules number (p.rules.length-1-m):Nat):Int):=by rw[e1g,ed,Int.ofNat_tmod]
  have hc1:=hch (m+1)
  refine aI ?_
  conv=>whnf
  first|refine dI ?_|refine mm (by decide+kernel) ?_
  conv=>whnf
  repeat' ((first|refine nI ?_|refine aI ?_|refine tI ?_|refine fI ?_|fail);conv=>whnf)
  rw[et]
  refine ub (by omega) (by omega) ?_
  conv=>whnf
  repeat' ((first|refine nI ?_|refine aI ?_|refine tI ?_|refine fI ?_|fail);conv=>whnf)
  rw[er,ei]
  refine ap ((w5 p.rules number (p.rules.length-1-m):Nat):Int) rfl ?_
  conv=>whnf
  repeat' ((first|refine nI ?_|refine aI ?_|refine tI ?_|refine fI ?_|fail);conv=>whnf)
  refine⟨m+1,?_,by omega,by dsimp only;omega⟩
  dsimp only
  rw[<-hup]
  exact sI
 ·obtain rfl:m=p.rules.length:=by omega
  rw[yo]
  exact⟨rfl,rfl⟩
theorem vt (p:au) (q:aV) (hv:aB p=0) (sch:List Int) (hs:cM (aA p.rules).length sch) (r j:Nat) (hr:r<p.rules.length) (hj:j<=sch.length):ab Tryz.prog 141 [.pd (ez p q), .int .i64 (r:Int), .sl 0 an sch, .int .i64 (j:Int)] (fun u=>u= .bool (decide (BW (aA p.rules) sch j (p.rules.getD r ar)))):=by
 have hT:=(aK hv).thr
 have hsl:=cH hs
 have hg2:=dl hv r hr
 have hin:∀g∈(p.rules.getD r ar).guards,(qE (aA p.rules) g∈sch.take j↔∃i,i<j/\(aA p.rules).getD (sch.getD i 0).toNat aE=g):=fun g hg=>Cz (xf _) (Cy hr hg) hs hj
 refine ab.intro ac ag Tryz.func141 rfl (by decide) ?_;(conv=>whnf)
 refine nI ?_
 rw[tN]
 generalize p.rules.getD r ar=x at hin hg2
 conv=>whnf
 refine aH.loopF ac ag (fun k:Nat=>k<=x.guards.length/\∀i,i<k->∃m,m<j/\(aA p.rules).getD (sch.getD m 0).toNat aE=x.guards.getD i aE) (fun k=>[(21, .int .i64 (k:Int))]) (fun _=>[]) (fun k=>x.guards.length-k) 0 ⟨by omega,fun i hi=>by omega⟩ ?_;conv=>whnf
 refine⟨sI,?_⟩
 rintro k ⟨hk,ha⟩
 conv=>whnf
 refine ah ?_ ?_<;>(intro h1;conv=>whnf)
 ·have hlt:k<x.guards.length:=by omega
  refine nI ?_
  rw[tN]
  have hgm:=hin _ (aP (l:=x.guards) aE hlt)
  conv=>whnf
  refine dI ?_
  conv=>whnf
  refine nI ?_
  rw[tN]
  conv=>whnf
  (refine oC (zR (aA p.rules) (x.guards.getD k aE) (by omega)) ?_;conv=>whnf)
  refine dD (bV (sch.take j) (qE (aA p.rules) (x.guards.getD k aE)) (by simp;omega)) (fun _=>?_) (fun _=>?_)<;>(conv=>whnf)
  ·rename_i h2
   repeat' ((first|refine nI ?_|refine aI ?_|refine tI ?_|refine fI ?_|fail);conv=>whnf)
   refine⟨k+1,sI,⟨by omega,fun i hi=>?_⟩,by dsimp only;omega⟩
   by_cases e:i=k
   ·subst e;exact hgm.1 h2
   ·exact ha i (by omega)
  ·rename_i h2
   exact⟨aq (fun h=>h2 (hgm.2 (h _ (aP (l:=x.guards) aE hlt)))),rfl⟩
 ·refine⟨az (fun g hg=>?_),rfl⟩
  obtain⟨i,hi,e⟩:=List.getElem_of_mem hg
  have:=ha i (by omega)
  rwa [ay aE hi,e] at this
def rT (l:List Vb):cn:=.row 138 cm dJ l
def xg (p:au) (q:aV) (k:Nat):List Vb:=[⟨0,0,0⟩,⟨1,0,0⟩,⟨2,0,0⟩]++((ca p q).take k).map (fun x=>⟨3,0,x⟩)
def tl (p:au) (q:aV) (k:Nat):List Vb:=xg p q (ca p q).length++(p.initial.take k).map (fun x=>(⟨4,0,x⟩:Vb))
def Fg (p:au) (q:aV):List Vb:=if gq p then tl p q p.initial.length else xg p q (ca p q).length
def fG (p:au) (q:aV) (sch:List Int) (j:Nat):List Vb:=Fg p q++(List.range j).flatMap fun j=>bX p sch j p.rules.length
theorem CC (p:au) (q:aV) {k:Nat} (h:k<(ca p q).length):xg p q (k+1)=xg p q k++[⟨3,0,(ca p q).getD k 0⟩]:=by
 unfold xg;rw[bl 0 h,List.map_append,List.append_assoc];rfl
theorem CD (p:au) (q:aV) {k:Nat} (h:k<p.initial.length):tl p q (k+1)=tl p q k++[⟨4,0,p.initial.getD k 0⟩]:=by
 unfold tl;rw[bl 0 h,List.map_append,List.append_assoc];rfl
theorem Hn (p:au) (q:aV):Fg p q=[⟨0,0,0⟩,⟨1,0,0⟩,⟨2,0,0⟩]++qD p q:=by
 unfold Fg tl xg qD
 split
 ·rw[List.take_length,List.take_length,List.append_assoc]
 ·rw[List.take_length,List.append_nil]
theorem oI (p:au) (q:aV) (sch:List Int):fG p q sch (sch.length+1)=ao p q sch:=by
 unfold fG ao;rw[Hn]
theorem tm (p:au) (q:aV) (sch:List Int) (j:Nat):fG p q sch (j+1)=fG p q sch j++bX p sch j p.rules.length:=by
 unfold fG;rw[List.range_succ,List.flatMap_append,List.append_assoc];simp
theorem k9 (p:au) (sch:List Int) (j:Nat) (l:List Vb):l++bX p sch j 0=l:=by simp[bX]
theorem oJ {p:au} {q:aV} (hv:aZ p q=0) (k:Nat):(xg p q k).length<=9:=by
 have h:=aK (aQ hv).vld
 have a:=bq (aQ hv).start
 have b:=bq h.ini.1
 have c:=h.len
 have d:(ca p q).length<=6:=by unfold ca;split<;>omega
 unfold xg
 simp only[List.length_append,List.length_cons,List.length_nil,List.length_map,List.length_take]
 omega
theorem tn {p:au} {q:aV} (hv:aZ p q=0) (k:Nat):(tl p q k).length<=15:=by
 have h:=aK (aQ hv).vld
 have a:=oJ hv (ca p q).length
 have b:=bq h.ini.1
 have c:=h.len
 unfold tl
 simp only[List.length_append,List.length_map,List.length_take]
 omega
theorem oK {p:au} {q:aV} (hv:aZ p q=0) {sch:List Int} (hs:cM (aA p.rules).length sch) (j:Nat) (hj:j<=sch.length+1):(fG p q sch j).length<=79:=by
 have w:=aK (aQ hv).vld
 have a:(Fg p q).length<=15:=by
  unfold Fg
  split
  ·exact tn hv _
  ·have:=oJ hv (ca p q).length;omega
 have b:=p5 p sch p.rules.length j
 have c:=cH hs
 have d:=w.thr
 have e:=w.len
 have f:2*p.rules.length*j<=16*4:=Nat.mul_le_mul (by omega) (by omega)
 unfold fG
 rw[List.length_append]
 omega
theorem qd (p:au) (q:aV) (hv:aZ p q=0) (sch:List Int) (hs:cM (aA p.rules).length sch):ab Tryz.prog 72 [.pd (ez p q), .sl 0 an sch] (fun u=>u= .sl cm dJ (ao p q sch)):=by
 have w:=aK (aQ hv).vld
 have hle:=w.len
 have hT:=w.thr
 have hsl:=cH hs
 have hst:(ca p q).length<=6:=by
  have a:=bq (aQ hv).start
  have b:=bq w.ini.1
  unfold ca;split<;>omega
 have hil:p.initial.length<=6:=by have b:=bq w.ini.1;omega
 refine ab.intro ac ag Tryz.func72 rfl (by decide) ?_;(conv=>whnf)
 refine bw cm dJ [⟨0,0,0⟩,⟨1,0,0⟩,⟨2,0,0⟩] rfl ?_
 conv=>whnf
 refine aH.loopF ac ag (fun k:Nat=>k<=(ca p q).length) (fun k=>[(15, .top),(21, .int .i64 (k:Int)),(5, .row 1000 (xg p q k).length 3)]) (fun k=>[(1000,rT (xg p q k))]) (fun k=>(ca p q).length-k) 0 (Nat.zero_le _) ?_;conv=>whnf
 refine⟨aL.by_ [(1000, .old 15)] _ 400 rfl (aa) (aa),?_⟩
 rintro k hk
 conv=>whnf
 refine ah ?_ ?_<;>(intro h1;conv=>whnf)
 ·have hlt:k<(ca p q).length:=by omega
  have hal:=oJ hv k
  refine nI ?_
  rw[tN]
  conv=>whnf
  refine bw cm dJ [⟨3,0,(ca p q).getD k 0⟩] rfl ?_
  conv=>whnf
  refine bD [⟨3,0,(ca p q).getD k 0⟩] rfl lI ?_
  conv=>whnf
  repeat' ((first|refine nI ?_|refine aI ?_|refine tI ?_|refine fI ?_|fail);conv=>whnf)
  refine⟨k+1,?_,by omega,by dsimp only;omega⟩
  dsimp only
  rw[CC p q hlt]
  exact aL.by_ [(1000, .old 29)] _ 400 rfl (aa) (aa)
 obtain rfl:k=(ca p q).length:=by omega
 refine dC (hZ p q) (fun _=>?_) (fun _=>?_)<;>(conv=>whnf)
 ·rename_i hw
  have hC:fG p q sch 0=tl p q p.initial.length:=by unfold fG Fg;rw[if_pos hw];simp
  refine aH.loopF ac ag (fun k:Nat=>k<=p.initial.length) (fun k=>[(39, .int .i64 (k:Int)),(5, .row 1000 (tl p q k).length 3)]) (fun k=>[(1000,rT (tl p q k))]) (fun k=>p.initial.length-k) 0 (Nat.zero_le _) ?_;conv=>whnf
  refine⟨by rw[show tl p q 0=xg p q (ca p q).length by unfold tl;simp];exact sI,?_⟩
  rintro k hk2
  conv=>whnf
  refine ah ?_ ?_<;>(intro h3;conv=>whnf)
  ·have hlt:k<p.initial.length:=by omega
   have hbl:=tn hv k
   refine nI ?_
   rw[tN]
   conv=>whnf
   refine bw cm dJ [⟨4,0,p.initial.getD k 0⟩] rfl ?_
   conv=>whnf
   refine bD [⟨4,0,p.initial.getD k 0⟩] rfl lI ?_
   conv=>whnf
   repeat' ((first|refine nI ?_|refine aI ?_|refine tI ?_|refine fI ?_|fail);conv=>whnf)
   refine⟨k+1,?_,by omega,by dsimp only;omega⟩
   dsimp only
   rw[CD p q hlt]
   exact aL.by_ [(1000, .old 47)] _ 400 rfl (aa) (aa)
  obtain rfl:k=p.initial.length:=by omega
  refine aI ?_
  conv=>whnf
  refine aH.loopF ac ag (fun j:Nat=>j<=sch.length+1) (fun j=>[(52, .int .i64 (j:Int)),(5, .row 1000 (fG p q sch j).length 3)]) (fun j=>[(1000,rT (fG p q sch j))]) (fun j=>sch.length+1-j) 0 (Nat.zero_le _) ?_;conv=>whnf
  refine⟨by rw[hC];exact sI,?_⟩
  rintro j hj
  conv=>whnf
  refine ah ?_ ?_<;>(intro h1;conv=>whnf)
  ·have hDl:=oK hv hs j hj
   refine aH.loopF ac ag (fun r:Nat=>r<=p.rules.length) (fun r=>[(61, .int .i64 (r:Int)),(5, .row 1000 (fG p q sch j++bX p sch j r).length 3)]) (fun r=>[(1000,rT (fG p q sch j++bX p sch j r))]) (fun r=>p.rules.length-r) 0 (Nat.zero_le _) ?_;conv=>whnf
   refine⟨by rw[k9];exact sI,?_⟩
   rintro r hr
   conv=>whnf
   refine ah ?_ ?_<;>(intro h2;conv=>whnf)
   ·have hrl:r<p.rules.length:=by omega
    have hsl:=jf p sch j r
    have hll:(fG p q sch j++bX p sch j r).length<=1000:=by rw[List.length_append];omega
    refine dC (vt p q (aQ hv).vld sch hs r j hrl (by omega)) (fun _=>?_) (fun _=>?_)<;>(conv=>whnf)
    ·rename_i ha
     refine bw cm dJ [⟨5,j,r⟩] rfl ?_
     conv=>whnf
     refine bD [⟨5,j,r⟩] rfl lI ?_
     conv=>whnf
     refine dC (hZ p q) (fun _=>?_) (fun _=>?_)<;>(conv=>whnf)
     ·rename_i hw
      have e:fG p q sch j++bX p sch j (r+1)=fG p q sch j++bX p sch j r++[⟨5,j,r⟩]++[⟨6,j,r⟩]:=by
       rw[dp,qR,if_pos ha,if_pos hw,List.append_assoc,List.append_assoc];rfl
      refine bw cm dJ [⟨6,j,r⟩] rfl ?_
      conv=>whnf
      refine bD [⟨6,j,r⟩] rfl (by simp only[List.length_append,List.length_cons,List.length_nil] at hll⊢;omega) ?_
      conv=>whnf
      repeat' ((first|refine nI ?_|refine aI ?_|refine tI ?_|refine fI ?_|fail);conv=>whnf)
      refine⟨r+1,?_,by omega,by dsimp only;omega⟩
      dsimp only
      rw[e]
      exact aL.by_ [(1000, .old 83)] _ 400 rfl (aa) (aa)
     ·rename_i hw
      have e:fG p q sch j++bX p sch j (r+1)=fG p q sch j++bX p sch j r++[⟨5,j,r⟩]:=by
       rw[dp,qR,if_pos ha,if_neg hw,List.append_assoc]
      repeat' ((first|refine nI ?_|refine aI ?_|refine tI ?_|refine fI ?_|fail);conv=>whnf)
      refine⟨r+1,?_,by omega,by dsimp only;omega⟩
      dsimp only
      rw[e]
      exact aL.by_ [(1000, .old 75)] _ 400 rfl (aa) (aa)
    ·rename_i ha
     have e:fG p q sch j++bX p sch j (r+1)=fG p q sch j++bX p sch j r:=by
      rw[dp,qR,if_neg ha,List.append_nil]
     repeat' ((first|refine nI ?_|refine aI ?_|refine tI ?_|refine fI ?_|fail);conv=>whnf)
     refine⟨r+1,?_,by omega,by dsimp only;omega⟩
     dsimp only
     rw[e]
     exact sI
   ·obtain rfl:r=p.rules.length:=by omega
    have e:=tm p q sch j
    repeat' ((first|refine nI ?_|refine aI ?_|refine tI ?_|refine fI ?_|fail);conv=>whnf)
    refine⟨j+1,?_,by omega,by dsimp only;omega⟩
    dsimp only
    rw[e]
    exact sI
  ·obtain rfl:j=sch.length+1:=by omega
   rw[oI]
   exact⟨rfl,rfl⟩
 ·rename_i hw
  have hC:fG p q sch 0=xg p q (ca p q).length:=by unfold fG Fg;rw[if_neg hw];simp
  refine aI ?_
  conv=>whnf
  refine aH.loopF ac ag (fun j:Nat=>j<=sch.length+1) (fun j=>[(52, .int .i64 (j:Int)),(5, .row 1000 (fG p q sch j).length 3)]) (fun j=>[(1000,rT (fG p q sch j))]) (fun j=>sch.length+1-j) 0 (Nat.zero_le _) ?_;conv=>whnf
  refine⟨by rw[hC];exact sI,?_⟩
  rintro j hj
  conv=>whnf
  refine ah ?_ ?_<;>(intro h1;conv=>whnf)
  ·have hDl:=oK hv hs j hj
   refine aH.loopF ac ag (fun r:Nat=>r<=p.rules.length) (fun r=>[(61, .int .i64 (r:Int)),(5, .row 1000 (fG p q sch j++bX p sch j r).length 3)]) (fun r=>[(1000,rT (fG p q sch j++bX p sch j r))]) (fun r=>p.rules.length-r) 0 (Nat.zero_le _) ?_;conv=>whnf
   refine⟨by rw[k9];exact sI,?_⟩
   rintro r hr
   conv=>whnf
   refine ah ?_ ?_<;>(intro h2;conv=>whnf)
   ·have hrl:r<p.rules.length:=by omega
    have hsl:=jf p sch j r
    have hll:(fG p q sch j++bX p sch j r).length<=1000:=by rw[List.length_append];omega
    refine dC (vt p q (aQ hv).vld sch hs r j hrl (by omega)) (fun _=>?_) (fun _=>?_)<;>(conv=>whnf)
    ·rename_i ha
     refine bw cm dJ [⟨5,j,r⟩] rfl ?_
     conv=>whnf
     refine bD [⟨5,j,r⟩] rfl lI ?_
     conv=>whnf
     refine dC (hZ p q) (fun _=>?_) (fun _=>?_)<;>(conv=>whnf)
     ·rename_i hw
      have e:fG p q sch j++bX p sch j (r+1)=fG p q sch j++bX p sch j r++[⟨5,j,r⟩]++[⟨6,j,r⟩]:=by
       rw[dp,qR,if_pos ha,if_pos hw,List.append_assoc,List.append_assoc];rfl
      refine bw cm dJ [⟨6,j,r⟩] rfl ?_
      conv=>whnf
      refine bD [⟨6,j,r⟩] rfl (by simp only[List.length_append,List.length_cons,List.length_nil] at hll⊢;omega) ?_
      conv=>whnf
      repeat' ((first|refine nI ?_|refine aI ?_|refine tI ?_|refine fI ?_|fail);conv=>whnf)
      refine⟨r+1,?_,by omega,by dsimp only;omega⟩
      dsimp only
      rw[e]
      exact aL.by_ [(1000, .old 83)] _ 400 rfl (aa) (aa)
     ·rename_i hw
      have e:fG p q sch j++bX p sch j (r+1)=fG p q sch j++bX p sch j r++[⟨5,j,r⟩]:=by
       rw[dp,qR,if_pos ha,if_neg hw,List.append_assoc]
      repeat' ((first|refine nI ?_|refine aI ?_|refine tI ?_|refine fI ?_|fail);conv=>whnf)
      refine⟨r+1,?_,by omega,by dsimp only;omega⟩
      dsimp only
      rw[e]
      exact aL.by_ [(1000, .old 75)] _ 400 rfl (aa) (aa)
    ·rename_i ha
     have e:fG p q sch j++bX p sch j (r+1)=fG p q sch j++bX p sch j r:=by
      rw[dp,qR,if_neg ha,List.append_nil]
     repeat' ((first|refine nI ?_|refine aI ?_|refine tI ?_|refine fI ?_|fail);conv=>whnf)
     refine⟨r+1,?_,by omega,by dsimp only;omega⟩
     dsimp only
     rw[e]
     exact sI
   ·obtain rfl:r=p.rules.length:=by omega
    have e:=tm p q sch j
    repeat' ((first|refine nI ?_|refine aI ?_|refine tI ?_|refine fI ?_|fail);conv=>whnf)
    refine⟨j+1,?_,by omega,by dsimp only;omega⟩
    dsimp only
    rw[e]
    exact sI
  ·obtain rfl:j=sch.length+1:=by omega
   rw[oI]
   exact⟨rfl,rfl⟩
def Ho (p:au) (q:aV) (sch:List Int):AV:=if cV p q≠0 then .tup [.nilsl, .int .i64 (cV p q)] else if¬cM (aA p.rules).length sch then .tup [.nilsl, .int .i64 1] else .tup [.sl cm dJ (ao p q sch), .int .i64 0]
theorem c8 {p:au} {q:aV} (h:cV p q=0):aZ p q=0:=by
 refine Classical.byContradiction fun hh=>?_
 rw[cV,if_pos hh] at h
 exact hh h
theorem tp {p:au} {q:aV} (h:cV p q=0):io p/\lO p q:=by
 have h1:=c8 h
 rw[cV,if_neg (by omega)] at h
 refine Classical.byContradiction fun hh=>?_
 rw[if_pos hh] at h
 omega
theorem xh {p:au} {q:aV} (h:cV p q=0):ta p q<=64:=by
 have h1:=c8 h
 have h2:=tp h
 rw[cV,if_neg (by omega),if_neg (fun hh=>hh h2)] at h
 refine Classical.byContradiction fun hh=>?_
 rw[if_pos (by omega)] at h
 omega
theorem xi (p:au) (q:aV) (hp:gM p) (hq:qP q) (sch:List Int) (hl:sch.length<=140737488355328):ab Tryz.prog 32 [.agg (aO p), .agg (fg q), .sl 0 an sch] (fun u=>u=Ho p q sch):=by
 have he:=Ho.eq_1 p q sch
 refine ab.intro ac ag Tryz.func32 rfl (by decide) ?_;(conv=>whnf)
 refine al rfl ?_
 conv=>whnf
 refine al rfl ?_
 conv=>whnf
 refine ak.of_pure (n:=5) (rR p q hp hq) (by rfl) ?_
 rintro _ rfl
 by_cases h:cV p q=0
 ·rw[if_neg (by omega)] at he
  rw[iL h]
  conv=>whnf
  refine fI ?_
  conv=>whnf
  refine dC (nG p q sch hl) (fun _=>?_) (fun _=>?_)<;>(conv=>whnf)
  ·rename_i hs
   rw[if_neg (fun hh=>hh hs)] at he
   (refine oP (qd p q (c8 h) sch hs) ?_;conv=>whnf)
   exact⟨he.symm,rfl⟩
  ·rename_i hs
   rw[if_pos hs] at he
   exact⟨he.symm,rfl⟩
 ·rw[if_pos h] at he
  rw[gg rfl h]
  conv=>whnf
  refine da h ?_
  conv=>whnf
  exact⟨he.symm,rfl⟩
end Go.Proofs.YtnjggjhkfncnlaaGreatDoor
