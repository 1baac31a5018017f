import Derived.Test.YtekmminpfhacpaaGreatDoorFwX
set_option linter.unusedVariables false
set_option linter.unusedSimpArgs false
namespace Go.Proofs.YtekmminpfhacpaaGreatDoor
set_option maxRecDepth 100000
set_option maxHeartbeats 16000000
theorem Iz {p:an} (hv:aw p=0):Gj p:=by
 have hb:=dE hv
 have hle:=aO hb
 exact⟨by omega,fun j hj=>by have:=dh (cQ hb hj);omega⟩
def du (p:an) (q:aE):List AV:=[.str p.name, .int .i64 p.topology, .sl t0 dQ p.states, .sl t0 dQ p.messages, .sl t0 dQ p.values, .int .i64 p.fault, .sl eJ bT p.resilience, .sl 0 ao p.initial, .sl 0 ao p.leader, .sl aq ee p.rules,
 .str q.name, .int .i64 q.kind, .sl 0 ao q.start, .sl ca fH q.bad, .sl 0 ao q.adjacent, .sl 0 ao q.goal, .sl aA bL (ar p.rules), .sl 0 ao (cC p q), .int .i64 (wA p q:Int)]
def HU (p:an) (q:aE) (k:Int):List AV:=[.str p.name, .int .i64 p.topology, .sl t0 dQ p.states, .sl t0 dQ p.messages, .sl t0 dQ p.values, .int .i64 p.fault, .sl eJ bT p.resilience, .sl 0 ao p.initial, .sl 0 ao p.leader, .sl aq ee p.rules,
 .str q.name, .int .i64 q.kind, .sl 0 ao q.start, .sl ca fH q.bad, .sl 0 ao q.adjacent, .sl 0 ao q.goal, .sl aA bL (ar p.rules), .sl 0 ao (cC p q), .int .i64 k]
theorem tO (p:an) (hp:g7 p) (hv:aw p=0):ab Tryz.prog 104 [.agg (aB p)] (fun u=>u= .tup [.sl aA bL (ar p.rules), .int .i64 0]):=by
 refine ab.intro ac ae Tryz.func104 rfl (by decide) ?_;(conv=>whnf)
 refine ak rfl ?_
 conv=>whnf
 (refine oP (dj p hp) ?_;conv=>whnf)
 refine fI ?_
 conv=>whnf
 (refine oP (mN p (Iz hv)) ?_;conv=>whnf)
 exact⟨rfl,rfl⟩
theorem oS (l:List Int) (h0:0<l.length) (hl:l.length<=1000):ab Tryz.prog 39 [.sl 0 ao l] (fun u=>u= .sl 0 ao l):=by
 refine ab.intro ac ae Tryz.func39 rfl (by decide) ?_;(conv=>whnf)
 refine cz (fun e=>by rw[e] at h0;simp at h0) ?_
 conv=>whnf
 refine bD 0 ao [] rfl ?_
 conv=>whnf
 refine bQ _ rfl (by simp only[List.length_nil];omega) ?_
 conv=>whnf
 exact⟨rfl,rfl⟩
theorem C8 (p:an) (q:aE) (hv:aU p q=0):ab Tryz.prog 101 [.agg (aB p), .agg (cJ q)] (fun u=>u= .tup [.sl 0 ao (cC p q), .int .i64 0]):=by
 have hq:=jE hv
 have hp:=dE (bl hv).vld
 have hle:=aO hp
 have hlq:=iY hq
 have hi:=(bk (bl hv).vld).ini
 have he:=cC.eq_1 p q
 refine ab.intro ac ae Tryz.func101 rfl (by decide) ?_;(conv=>whnf)
 refine ak rfl ?_
 conv=>whnf
 refine ak rfl ?_
 conv=>whnf
 (refine oP (iq p q (iT hp) (oz hq)) ?_;conv=>whnf)
 refine fI ?_
 conv=>whnf
 refine ag ?_ ?_<;>(intro h1;conv=>whnf)
 ·rw[if_pos (by omega)] at he
  (refine oP (oS q.start (by omega) (by omega)) ?_;conv=>whnf)
  exact⟨he▸rfl,rfl⟩
 ·rw[if_neg (by omega)] at he
  (refine oP (oS p.initial (by omega) (by omega)) ?_;conv=>whnf)
  exact⟨he▸rfl,rfl⟩
theorem xX (p:an) (q:aE) (hp:g7 p) (hq:qk q) (hv:aU p q≠0):ab Tryz.prog 101 [.agg (aB p), .agg (cJ q)] (fun u=>u= .tup [.nilsl, .int .i64 (aU p q)]):=by
 refine ab.intro ac ae Tryz.func101 rfl (by decide) ?_;(conv=>whnf)
 refine ak rfl ?_
 conv=>whnf
 refine ak rfl ?_
 conv=>whnf
 (refine oP (iq p q hp hq) ?_;conv=>whnf)
 refine eI hv ?_
 conv=>whnf
 exact⟨rfl,rfl⟩
theorem xY (x:bC) (q:aE) (hq:q.goal.length<=4503599627370496):ab Tryz.prog 192 [.agg (ee x), .pd (cJ q)] (fun u=>u= .bool (decide (x.src∈q.goal/\x.dst∉q.goal))):=by
 refine ab.intro ac ae Tryz.func192 rfl (by decide) ?_;(conv=>whnf)
 refine ak rfl ?_
 conv=>whnf
 refine dC (bo q.goal _ hq) (fun _=>?_) (fun _=>?_)<;>(conv=>whnf)
 ·rename_i h1
  refine dC (bo q.goal _ hq) (fun _=>?_) (fun _=>?_)<;>(conv=>whnf)
  ·rename_i h2;exact⟨al (fun h=>h.2 h2),rfl⟩
  ·rename_i h2;exact⟨av ⟨h1,h2⟩,rfl⟩
 ·rename_i h1;exact⟨al (fun h=>h1 h.1),rfl⟩
def xZ (l:List bC) (q:aE):Prop:=∃j,j<l.length/\(l.getD j aq).src∈q.goal/\(l.getD j aq).dst∉q.goal
instance (l:List bC) (q:aE):Decidable (xZ l q):=inferInstanceAs (Decidable (∃j,j<l.length/\_))
theorem AB (l:List bC) (q:aE) (hl:l.length<=4503599627370496) (hq:q.goal.length<=4503599627370496):ab Tryz.prog 267 [.sl aq ee l, .fn 192 [.pd (cJ q)]] (fun u=>∃n:Int,u= .int .i64 n/\(0<=n↔xZ l q)):=by
 refine ab.intro ac ae Tryz.func267 rfl (by decide) ?_;(conv=>whnf)
 refine aF.loopF ac ae (fun k:Nat=>k<=l.length/\∀j,j<k->¬((l.getD j aq).src∈q.goal/\(l.getD j aq).dst∉q.goal)) (fun k=>[(8, .int .i64 (k:Int))]) (fun _=>[]) (fun k=>l.length-k) 0 ⟨by omega,fun j hj=>by omega⟩ ?_;conv=>whnf
 refine⟨sI,?_⟩
 rintro k ⟨hk,ha⟩
 conv=>whnf
 refine ag ?_ ?_<;>(intro h1;conv=>whnf)
 ·refine nI ?_
  rw[tN]
  conv=>whnf
  refine dC (xY (l.getD k aq) q hq) (fun _=>?_) (fun _=>?_)<;>(conv=>whnf)
  ·rename_i h2
   exact⟨⟨k,rfl,fun _=>⟨k,by omega,h2⟩,fun _=>by omega⟩,rfl⟩
  ·rename_i h2
   repeat' ((first|refine nI ?_|refine aI ?_|refine uI ?_|refine vI ?_|refine dI ?_|refine dR ?_|refine dP ?_|refine ak rfl ?_|refine pI _ rfl ?_|refine ap _ rfl ?_|refine tI ?_|refine fI ?_|refine ag (fun _=>?_) (fun _=>?_))<;>conv=>whnf)
   refine⟨k+1,sI,⟨by omega,fun j hj=>?_⟩,by dsimp only;omega⟩
   by_cases e:j=k
   ·subst e;exact h2
   ·exact ha j (by omega)
 ·exact⟨⟨-1,rfl,fun h=>by omega,fun⟨j,h1,h2⟩=>absurd h2 (ha j (by omega))⟩,rfl⟩
theorem AC (l:List bC) (q:aE) (hl:l.length<=4503599627370496) (hq:q.goal.length<=4503599627370496):ab Tryz.prog 191 [.sl aq ee l, .fn 192 [.pd (cJ q)]] (fun u=>u= .bool (decide (xZ l q))):=by
 refine ab.intro ac ae Tryz.func191 rfl (by decide) ?_;(conv=>whnf)
 refine am.of_pure (n:=5) (AB l q hl hq) rfl ?_
 rintro _ ⟨n,rfl,hn⟩
 conv=>whnf
 refine ag ?_ ?_<;>(intro h;conv=>whnf)
 ·exact⟨av (hn.1 h),rfl⟩
 ·exact⟨al (fun hh=>h (hn.2 hh)),rfl⟩
theorem AD (p:an) (q:aE) (hk:q.kind=1\/q.kind=2) (hl:p.rules.length<=4503599627370496) (hq:q.goal.length<=4503599627370496):ab Tryz.prog 103 [.agg (aB p), .agg (cJ q)] (fun u=>u= .bool (decide (g6 p q))):=by
 have key:q.kind=2->(g6 p q↔¬xZ p.rules q):=fun h2=>by
  unfold g6 xZ
  constructor
  ·rintro h ⟨j,h3,h4,h5⟩;exact h5 (h h2 j h3 h4)
  ·intro h _ j h3 h4
   exact Classical.byContradiction fun h5=>h ⟨j,h3,h4,h5⟩
 refine ab.intro ac ae Tryz.func103 rfl (by decide) ?_;(conv=>whnf)
 refine ak rfl ?_
 conv=>whnf
 refine ak rfl ?_
 conv=>whnf
 refine ag ?_ ?_<;>(intro h;conv=>whnf)
 ·exact⟨av (fun h2=>by omega),rfl⟩
 ·have k:=key (by omega)
  refine am.borrow (n:=5) (AC p.rules q hl hq) rfl (by rintro _ rfl;rfl) ?_
  rintro _ rfl
  by_cases ho:xZ p.rules q
  ·rw[decide_eq_true ho]
   conv=>whnf
   exact⟨al (fun h=>k.1 h ho),rfl⟩
  ·rw[decide_eq_false ho]
   conv=>whnf
   exact⟨av (k.2 ho),rfl⟩
def tP (p:an) (q:aE):AV:=if dl p q=0 then .tup [.pd (du p q), .int .i64 0] else .tup [.val (.pointer none), .int .i64 (dl p q)]
theorem fT {p:an} {q:aE} {e:Int} (h:dl p q=e) (h0:e≠0):tP p q= .tup [.val (.pointer none), .int .i64 e]:=by unfold tP;rw[if_neg (by omega),h]
theorem i4 {p:an} {q:aE} (h:dl p q=0):tP p q= .tup [.pd (du p q), .int .i64 0]:=by unfold tP;rw[if_pos h]
theorem d8 {p:an} (hv:aw p=0):∀j,j<p.rules.length->(p.rules.getD j aq).guards.length<=2:=fun j hj=>by
 have v:=bk hv
 obtain⟨_,_,h3,_,_,h6⟩:=gk (v.rul j hj)
 by_cases k:(p.rules.getD j aq).kind=1
 ·unfold cu at h6
  rw[if_pos k] at h6
  exact ox (bM h6 (aZ p.messages.length (p.rules.getD j aq).guards) (by simp))
 ·unfold gu at h3;omega
theorem Em {p:an} (hv:aw p=0) {k:Nat} (hk:k<=p.rules.length):qo p.rules k<=6561:=by
 have a:=Ag (d8 hv) k hk
 have b:=(bk hv).len
 have c:(3:Nat)^k<=3^8:=Nat.pow_le_pow_right (by omega) (by omega)
 omega
theorem tQ (p:an) (q:aE) (hp:g7 p) (hq:qk q):ab Tryz.prog 36 [.agg (aB p), .agg (cJ q)] (fun u=>u=tP p q):=by
 have he:=dl.eq_1 p q
 have hle:=gZ hp
 have hlq:=ro hq
 refine ab.intro ac ae Tryz.func36 rfl (by decide) ?_;(conv=>whnf)
 refine ak rfl ?_
 conv=>whnf
 refine ak rfl ?_
 conv=>whnf
 by_cases h1:aU p q=0
 case neg=>
  rw[if_pos h1] at he
  (refine oP (xX p q hp hq h1) ?_;conv=>whnf)
  refine eI h1 ?_
  conv=>whnf
  exact⟨(fT he h1).symm,rfl⟩
 rw[if_neg (by omega)] at he
 have w:=bl h1
 have hv:=w.vld
 (refine oP (C8 p q h1) ?_;conv=>whnf)
 refine fI ?_
 conv=>whnf
 refine am.of_pure (n:=5) (AA p hp hv) rfl ?_
 rintro _ ⟨b,c,d,e,rfl⟩
 by_cases ht:c9 p
 case neg=>
  rw[decide_eq_false ht]
  rw[if_pos (fun h=>ht h.1)] at he
  conv=>whnf
  exact⟨(fT he (by omega)).symm,rfl⟩
 rw[decide_eq_true ht]
 conv=>whnf
 refine dC (AD p q w.kind (by omega) (by omega)) (fun _=>?_) (fun _=>?_)<;>(conv=>whnf)
 case refine_2=>
  rename_i hs
  rw[if_pos (fun h=>hs h.2)] at he
  exact⟨(fT he (by omega)).symm,rfl⟩
 rename_i hs
 rw[if_neg (fun h=>h ⟨ht,hs⟩)] at he
 (refine oP (tO p hp hv) ?_;conv=>whnf)
 refine xd ?_
 conv=>whnf
 refine ag ?_ ?_<;>(intro hk;conv=>whnf)
 ·have hN:wA p q=qo p.rules p.rules.length:=by unfold wA;rw[if_pos hk]
  refine aF.loopF ac ae (fun k:Nat=>k<=p.rules.length) (fun k=>[(55, .int .i64 (k:Int)),(12, .ptr 48 0)]) (fun k=>[(8, .box 175 [.bool true, .bool b, .bool c, .bool d, .bool e]),(48, .box 106 (HU p q (qo p.rules k:Int)))]) (fun k=>p.rules.length-k) 0 (Nat.zero_le _) ?_;conv=>whnf
  refine⟨sI,?_⟩
  rintro k hk'
  conv=>whnf
  refine ag ?_ ?_<;>(intro h2;conv=>whnf)
  ·have hlt:k<p.rules.length:=by omega
   refine nI ?_
   rw[tN]
   conv=>whnf
   have hg:=d8 hv k hlt
   have hc:=Em hv (k:=k) (by omega)
   have hn:(qo p.rules (k+1):Int)=(qo p.rules k:Int)*(1+((p.rules.getD k aq).guards.length:Int)):=by rw[qo];push_cast;rfl
   have hb:(qo p.rules k:Int)*(1+((p.rules.getD k aq).guards.length:Int))<=6561*3:=Int.mul_le_mul (by omega) (by omega) (by omega) (by omega)
   have hb0:0<=(qo p.rules k:Int)*(1+((p.rules.getD k aq).guards.length:Int)):=Int.mul_nonneg (by omega) (by omega)
   first|refine dI ?_|refine oa (by decide+kernel) ?_
   conv=>whnf
   refine aI ?_
   conv=>whnf
   refine aI ?_
   conv=>whnf
   repeat' ((first|refine nI ?_|refine aI ?_|refine tI ?_|refine fI ?_|fail);conv=>whnf)
   refine⟨k+1,?_,by omega,by dsimp only;omega⟩
   dsimp only
   rw[hn]
   exact sI
  ·obtain rfl:k=p.rules.length:=by omega
   rw[<-hN]
   refine ag ?_ ?_<;>(intro h3;conv=>whnf)
   ·rw[if_pos (by omega)] at he
    exact⟨(fT he (by omega)).symm,rfl⟩
   ·rw[if_neg (by omega)] at he
    exact⟨(i4 he).symm,rfl⟩
 ·have hN:wA p q=1:=by unfold wA;rw[if_neg hk]
  rw[hN,if_neg (by omega)] at he
  repeat' ((first|refine nI ?_|refine aI ?_|refine tI ?_|refine fI ?_|fail);conv=>whnf)
  refine⟨?_,rfl⟩
  rw[i4 he]
  unfold du
  rw[hN]
  rfl
theorem AE (p:an) (q:aE) (hp:g7 p) (hq:qk q):ab Tryz.prog 18 [.agg (aB p), .agg (cJ q)] (fun u=>u= .int .i64 (dl p q)):=by
 refine ab.intro ac ae Tryz.func18 rfl (by decide) ?_;(conv=>whnf)
 refine ak rfl ?_
 conv=>whnf
 refine ak rfl ?_
 conv=>whnf
 refine am.of_pure (n:=5) (tQ p q hp hq) (by rfl) ?_
 rintro _ rfl
 by_cases h:dl p q=0
 ·rw[i4 h]
  conv=>whnf
  exact⟨ah h.symm,rfl⟩
 ·rw[fT rfl h]
  conv=>whnf
  exact⟨rfl,rfl⟩
def po:List dB->dB->Int
 |[],_=>-1
 |a::l,g=>if a=g then 0 else if po l g<0 then -1 else po l g+1
theorem tR {g:dB}:∀{l:List dB},g∉l->po l g=-1
 |[],_=>rfl
 |a::l,h=>by
  rw[List.mem_cons,not_or] at h
  rw[po,if_neg (fun e=>h.1 e.symm),tR h.2,if_pos (by omega)]
theorem AF {g:dB}:∀{l:List dB} {k:Nat},k<l.length->g∉l.take k->l.getD k aA=g->po l g=(k:Int)
 |[],k,h,_,_=>by simp at h
 |a::l,0,_,_,h=>by rw[po,if_pos (show a=g from h)];rfl
 |a::l,k+1,h,h1,h2=>by
  rw[List.take_succ_cons,List.mem_cons,not_or] at h1
  have:=AF (l:=l) (k:=k) (by simpa using h) h1.2 h2
  rw[po,if_neg (fun e=>h1.1 e.symm),this,if_neg (by omega)]
  omega
theorem wG (g:dB):∀l:List dB,-1<=po l g/\po l g<l.length
 |[]=>by simp[po]
 |a::l=>by
  have:=wG g l
  rw[po]
  simp only[List.length_cons]
  split
  ·omega
  ·split<;>omega
theorem wH {g:dB}:∀{l:List dB},g∈l->0<=po l g/\l.getD (po l g).toNat aA=g
 |a::l,h=>by
  rw[po]
  by_cases e:a=g
  ·rw[if_pos e];exact⟨by omega,e⟩
  ·rw[if_neg e]
   obtain⟨h1,h2⟩:=wH (l:=l) (by rcases List.mem_cons.1 h with h|h;exact absurd h.symm e;exact h)
   rw[if_neg (by omega)]
   refine⟨by omega,?_⟩
   rw[show(po l g+1).toNat=(po l g).toNat+1 by omega]
   exact h2
theorem vo {acc:List dB} {g:dB} (h:acc.Nodup):(gw acc g).Nodup:=by
 unfold gw
 split
 ·exact h
 ·rename_i hm
  rw[List.nodup_append]
  exact⟨h,by simp,fun a ha b hb e=>by rw[List.mem_singleton] at hb;subst hb;subst e;exact hm ha⟩
theorem mP:∀(gs acc:List dB),acc.Nodup->(gs.foldl gw acc).Nodup
 |[],_,h=>h
 |g::gs,acc,h=>mP gs _ (vo h)
theorem vp (rs:List bC):(ar rs).Nodup:=mP _ _ (by simp)
theorem AG {acc:List dB} {g x:dB} (h:x∈acc):x∈gw acc g:=by
 unfold gw
 split
 ·exact h
 ·exact List.mem_append_left _ h
theorem x3 (acc:List dB) (g:dB):g∈gw acc g:=by
 unfold gw
 split
 ·assumption
 ·exact List.mem_append_right _ (List.mem_singleton.2 rfl)
theorem qt:∀(gs acc:List dB) (x:dB),x∈acc\/x∈gs->x∈gs.foldl gw acc
 |[],_,x,h=>by rcases h with h|h;exact h;cases h
 |g::gs,acc,x,h=>by
  rw[List.foldl_cons]
  refine qt gs _ x ?_
  rcases h with h|h
  ·exact .inl (AG h)
  ·rcases List.mem_cons.1 h with rfl|h
   ·exact .inl (x3 acc x)
   ·exact .inr h
theorem tS {rs:List bC} {j:Nat} (hj:j<rs.length) {g:dB} (h:g∈(rs.getD j aq).guards):g∈ar rs:=by
 refine qt _ _ g (.inr (List.mem_flatMap.2 ⟨rs.getD j aq,bi _ hj,h⟩))
theorem AH {T:List dB} (hn:T.Nodup) {g:dB} (hg:g∈T) {sch:List Int} (hs:eM T.length sch) {j:Nat} (hj:j<=sch.length):po T g∈sch.take j↔∃i,i<j/\T.getD (sch.getD i 0).toNat aA=g:=by
 obtain⟨h0,h1⟩:=wH hg
 have hr:=wG g T
 constructor
 ·intro h
  obtain⟨i,hi,e⟩:=List.mem_take_iff_getElem.1 h
  refine⟨i,by omega,?_⟩
  rw[au 0 (by omega),e]
  exact h1
 ·rintro⟨i,hi,e⟩
  have hb:=(hs i (by omega)).1
  have e2:sch.getD i 0=po T g:=by
   have a:(sch.getD i 0).toNat<T.length:=by omega
   have b:(po T g).toNat<T.length:=by omega
   rw[au aA a] at e
   rw[au aA b] at h1
   have:=(List.getElem_inj hn).1 (e.trans h1.symm)
   omega
  exact List.mem_take_iff_getElem.2 ⟨i,by omega,by rw[<-e2,au 0 (by omega)]⟩
theorem x4 (l:List dB) (g:dB) (hl:l.length<=4503599627370496):ab Tryz.prog 271 [.sl aA bL l, .agg (bL g)] (fun u=>u= .int .i64 (po l g)):=by
 refine ab.intro ac ae Tryz.func271 rfl (by decide) ?_;(conv=>whnf)
 refine ak rfl ?_
 conv=>whnf
 refine aF.loopF ac ae (fun k:Nat=>k<=l.length/\g∉l.take k) (fun k=>[(8, .int .i64 (k:Int))]) (fun _=>[]) (fun k=>l.length-k) 0 ⟨by omega,by simp⟩ ?_;conv=>whnf
 refine⟨sI,?_⟩
 rintro k ⟨hk,ha⟩
 conv=>whnf
 repeat' ((first|refine nI ?_|refine aI ?_|refine uI ?_|refine vI ?_|refine dI ?_|refine dR ?_|refine dP ?_|refine ak rfl ?_|refine pI _ rfl ?_|refine ap _ rfl ?_|refine tI ?_|refine fI ?_|refine ag (fun _=>?_) (fun _=>?_))<;>conv=>whnf)
 ·rename_i h1 h2
  rw[tN] at h2
  have h2:g=l.getD k aA:=gi.1 h2
  refine⟨ah ?_,rfl⟩
  rw[AF (by omega) ha h2.symm]
 ·rename_i h1 h2
  rw[tN] at h2
  refine⟨k+1,sI,⟨by omega,?_⟩,by dsimp only;omega⟩
  rw[bj aA (by omega),List.mem_append,List.mem_singleton,not_or]
  exact⟨ha,fun e=>h2 (gi.2 e)⟩
 ·obtain rfl:k=l.length:=by omega
  rw[List.take_length] at ha
  exact⟨ah (tR ha).symm,rfl⟩
theorem gn (p:an) (q:aE):ab Tryz.prog 108 [.pd (du p q)] (fun u=>u= .bool (decide (pA p))):=by
 refine ab.intro ac ae Tryz.func108 rfl (by decide) ?_;(conv=>whnf)
 refine ag ?_ ?_<;>(intro h;conv=>whnf)
 ·exact⟨av (.inl h),rfl⟩
 ·refine ag ?_ ?_<;>(intro h2;conv=>whnf)
  ·exact⟨av (.inr h2),rfl⟩
  ·exact⟨al (fun hh=>by rcases hh with hh|hh;exact h hh;exact h2 hh),rfl⟩
theorem qu (p:an) (q:aE) (l:List Int) (hl:l.length<=140737488355328):ab Tryz.prog 85 [.pd (du p q), .sl 0 ao l] (fun u=>u= .bool (decide (eM (ar p.rules).length l))):=by
 refine ab.intro ac ae Tryz.func85 rfl (by decide) ?_;(conv=>whnf)
 refine aF.loopF ac ae (fun k:Nat=>k<=l.length/\∀i,i<k->(0<=l.getD i 0/\l.getD i 0<(ar p.rules).length)/\l.getD i 0∉l.take i) (fun k=>[(9, .int .i64 (k:Int))]) (fun _=>[]) (fun k=>l.length-k) 0 ⟨by omega,fun i hi=>by omega⟩ ?_;conv=>whnf
 refine⟨sI,?_⟩
 rintro k ⟨hk,ha⟩
 conv=>whnf
 refine ag ?_ ?_<;>(intro h1;conv=>whnf)
 ·have hlt:k<l.length:=by omega
  refine nI ?_
  rw[tN]
  conv=>whnf
  refine ag ?_ ?_<;>(intro h2;conv=>whnf)
  ·exact⟨al (fun h=>by have:=(h k hlt).1.1;omega),rfl⟩
  refine ag ?_ ?_<;>(intro h3;conv=>whnf)
  ·exact⟨al (fun h=>by have:=(h k hlt).1.2;omega),rfl⟩
  refine nI ?_
  rw[tN]
  conv=>whnf
  refine dC (bo (l.take k) (l.getD k 0) (by simp;omega)) (fun _=>?_) (fun _=>?_)<;>(conv=>whnf)
  ·rename_i h4
   exact⟨al (fun h=>(h k hlt).2 h4),rfl⟩
  ·rename_i h4
   repeat' ((first|refine nI ?_|refine aI ?_|refine tI ?_|refine fI ?_|fail);conv=>whnf)
   refine⟨k+1,sI,⟨by omega,fun i hi=>?_⟩,by dsimp only;omega⟩
   by_cases e:i=k
   ·subst e;exact⟨⟨by omega,by omega⟩,h4⟩
   ·exact ha i (by omega)
 ·exact⟨av (fun i hi=>ha i (by omega)),rfl⟩
def BX (p:an) (number m:Nat):List Int:=List.replicate (p.rules.length-m) 0++(ve p number).drop (p.rules.length-m)
theorem AJ (p:an) (number:Nat):BX p number 0=List.replicate p.rules.length 0:=by
 unfold BX
 rw[Nat.sub_zero,List.drop_of_length_le (by rw[lC];omega),List.append_nil]
theorem C9 (p:an) (number:Nat):BX p number p.rules.length=ve p number:=by
 unfold BX
 rw[Nat.sub_self]
 simp
theorem Da (p:an) {number m:Nat} (h:m<=p.rules.length):(BX p number m).length=p.rules.length:=by
 unfold BX
 rw[List.length_append,List.length_replicate,List.length_drop,lC]
 omega
theorem Fn (p:an) {number m:Nat} (h:m<p.rules.length):(BX p number m).set (p.rules.length-1-m) (Ah p.rules number (p.rules.length-1-m):Int)=BX p number (m+1):=by
 unfold BX
 have e1:p.rules.length-m=(p.rules.length-1-m)+1:=by omega
 have e2:p.rules.length-(m+1)=p.rules.length-1-m:=by omega
 have e3:(ve p number).drop (p.rules.length-1-m)=(Ah p.rules number (p.rules.length-1-m):Int)::(ve p number).drop (p.rules.length-1-m+1):=by
  rw[List.drop_eq_getElem_cons (by rw[lC];omega)]
  congr 1
  rw[<-wB (by omega),au 0 (by rw[lC];omega)]
 rw[e1,e2,e3,List.replicate_succ',List.append_assoc,List.set_append_right _ _ (by simp)]
 simp
theorem Db (p:an) (q:aE) (hv:aw p=0) (number:Nat) (hn:number<=1000000):ab Tryz.prog 199 [.pd (du p q), .int .i64 (number:Int)] (fun u=>u=if q.kind=1 then .nilsl else .sl 0 ao (ve p number)):=by
 have hl:=(bk hv).len
 refine ab.intro ac ae Tryz.func199 rfl (by decide) ?_;(conv=>whnf)
 refine ag ?_ ?_<;>(intro hk;conv=>whnf)
 ·exact⟨by rw[if_pos hk];rfl,rfl⟩
 rw[if_neg hk]
 refine DY 0 ao 0 rfl (by dsimp only;omega) ?_
 rw[tN]
 conv=>whnf
 refine aI ?_
 conv=>whnf
 have hch:∀m,yB p.rules number m<=number:=by
  intro m
  induction m with
  |zero=>exact Nat.le_refl _
  |succ m ih=>rw[yB];exact Nat.le_trans (Nat.div_le_self _ _) ih
 refine aF.loopF ac ae (fun m:Nat=>m<=p.rules.length) (fun m=>[(6, .int .i64 ((p.rules.length:Int)-1-(m:Int))),(1, .int .i64 (yB p.rules number m:Int))]) (fun m=>[(20,bm (BX p number m))]) (fun m=>p.rules.length-m) 0 (Nat.zero_le _) ?_;conv=>whnf
 refine⟨by rw[AJ];exact sI,?_⟩
 rintro m hm
 conv=>whnf
 refine ag ?_ ?_<;>(intro h1;conv=>whnf)
 ·have hlt:m<p.rules.length:=by omega
  have ei:((p.rules.length:Int)-1-(m:Int)).toNat=p.rules.length-1-m:=by omega
  refine nI ?_
  rw[ei]
  conv=>whnf
  have hg:=d8 hv (p.rules.length-1-m) (by omega)
  have hc:=hch m
  have hup:=Fn p (number:=number) hlt
  have ed:Ah p.rules number (p.rules.length-1-m)=yB p.rules number m % (1+(p.rules.getD (p.rules.length-1-m) aq).guards.length):=by unfold Ah;rw[show p.rules.length-1-(p.rules.length-1-m)=m by omega]
  have eq:yB p.rules number (m+1)=yB p.rules number m / (1+(p.rules.getD (p.rules.length-1-m) aq).guards.length):=rfl
  have hlen:=Da p (number:=number) (m:=m) (by omega)
  generalize (p.rules.getD (p.rules.length-1-m) aq).guards.length=g at hg ed eq
  have e1g:(1+(g:Int))=((1+g:Nat):Int):=by push_cast;rfl
  have et:((yB p.rules number m:Nat):Int).tdiv (1+(g:Int))=((yB p.rules number (m+1):Nat):Int):=by rw[e1g,eq,Int.ofNat_tdiv]
  have er:((yB p.rules number m:Nat):Int).tmod (1+(g:Int))=((Ah p.rules number (p.rules.length-1-m):Nat):Int):=by rw[e1g,ed,Int.ofNat_tmod]
  have hc1:=hch (m+1)
  refine aI ?_
  conv=>whnf
  first|refine dI ?_|refine oa (by decide+kernel) ?_
  conv=>whnf
  repeat' ((first|refine nI ?_|refine aI ?_|refine tI ?_|refine fI ?_|fail);conv=>whnf)
  rw[et]
  refine Gr (by omega) (by omega) ?_
  conv=>whnf
  repeat' ((first|refine nI ?_|refine aI ?_|refine tI ?_|refine fI ?_|fail);conv=>whnf)
  rw[er,ei]
  refine ap ((Ah p.rules number (p.rules.length-1-m):Nat):Int) rfl ?_
  conv=>whnf
  repeat' ((first|refine nI ?_|refine aI ?_|refine tI ?_|refine fI ?_|fail);conv=>whnf)
  refine⟨m+1,?_,by omega,by dsimp only;omega⟩
  dsimp only
  rw[<-hup]
  exact sI
 ·obtain rfl:m=p.rules.length:=by omega
  rw[C9]
  exact⟨rfl,rfl⟩
theorem tT (p:an) (q:aE) (hv:aw p=0) (sch:List Int) (hs:eM (ar p.rules).length sch) (r j:Nat) (hr:r<p.rules.length) (hj:j<=sch.length):ab Tryz.prog 210 [.pd (du p q), .int .i64 (r:Int), .sl 0 ao sch, .int .i64 (j:Int)] (fun u=>u= .bool (decide (xR (ar p.rules) sch j (p.rules.getD r aq)))):=by
 have hT:=(bk hv).thr
 have hsl:=dF hs
 have hg2:=d8 hv r hr
 have hin:∀g∈(p.rules.getD r aq).guards,(po (ar p.rules) g∈sch.take j↔∃i,i<j/\(ar p.rules).getD (sch.getD i 0).toNat aA=g):=fun g hg=>AH (vp _) (tS hr hg) hs hj
 refine ab.intro ac ae Tryz.func210 rfl (by decide) ?_;(conv=>whnf)
 refine nI ?_
 rw[tN]
 generalize p.rules.getD r aq=x at hin hg2
 conv=>whnf
 refine aF.loopF ac ae (fun k:Nat=>k<=x.guards.length/\∀i,i<k->∃m,m<j/\(ar p.rules).getD (sch.getD m 0).toNat aA=x.guards.getD i aA) (fun k=>[(21, .int .i64 (k:Int))]) (fun _=>[]) (fun k=>x.guards.length-k) 0 ⟨by omega,fun i hi=>by omega⟩ ?_;conv=>whnf
 refine⟨sI,?_⟩
 rintro k ⟨hk,ha⟩
 conv=>whnf
 refine ag ?_ ?_<;>(intro h1;conv=>whnf)
 ·have hlt:k<x.guards.length:=by omega
  refine nI ?_
  rw[tN]
  have hgm:=hin _ (bi (l:=x.guards) aA hlt)
  conv=>whnf
  refine dI ?_
  conv=>whnf
  refine nI ?_
  rw[tN]
  conv=>whnf
  (refine oC (x4 (ar p.rules) (x.guards.getD k aA) (by omega)) ?_;conv=>whnf)
  refine dD (bo (sch.take j) (po (ar p.rules) (x.guards.getD k aA)) (by simp;omega)) (fun _=>?_) (fun _=>?_)<;>(conv=>whnf)
  ·rename_i h2
   repeat' ((first|refine nI ?_|refine aI ?_|refine tI ?_|refine fI ?_|fail);conv=>whnf)
   refine⟨k+1,sI,⟨by omega,fun i hi=>?_⟩,by dsimp only;omega⟩
   by_cases e:i=k
   ·subst e;exact hgm.1 h2
   ·exact ha i (by omega)
  ·rename_i h2
   exact⟨al (fun h=>h2 (hgm.2 (h _ (bi (l:=x.guards) aA hlt)))),rfl⟩
 ·refine⟨av (fun g hg=>?_),rfl⟩
  obtain⟨i,hi,e⟩:=List.getElem_of_mem hg
  have:=ha i (by omega)
  rwa [au aA hi,e] at this
def qv (l:List Vb):bP:=.row 252 cw d7 l
def vr (p:an) (q:aE) (k:Nat):List Vb:=[⟨0,0,0⟩,⟨1,0,0⟩,⟨2,0,0⟩]++((cC p q).take k).map (fun x=>⟨3,0,x⟩)
def rK (p:an) (q:aE) (k:Nat):List Vb:=vr p q (cC p q).length++(p.initial.take k).map (fun x=>(⟨4,0,x⟩:Vb))
def Dc (p:an) (q:aE):List Vb:=if pA p then rK p q p.initial.length else vr p q (cC p q).length
def eG (p:an) (q:aE) (sch:List Int) (j:Nat):List Vb:=Dc p q++(List.range j).flatMap fun j=>bE p sch j p.rules.length
theorem AK (p:an) (q:aE) {k:Nat} (h:k<(cC p q).length):vr p q (k+1)=vr p q k++[⟨3,0,(cC p q).getD k 0⟩]:=by
 unfold vr;rw[bj 0 h,List.map_append,List.append_assoc];rfl
theorem AM (p:an) (q:aE) {k:Nat} (h:k<p.initial.length):rK p q (k+1)=rK p q k++[⟨4,0,p.initial.getD k 0⟩]:=by
 unfold rK;rw[bj 0 h,List.map_append,List.append_assoc];rfl
theorem Fo (p:an) (q:aE):Dc p q=[⟨0,0,0⟩,⟨1,0,0⟩,⟨2,0,0⟩]++vf p q:=by
 unfold Dc rK vr vf
 split
 ·rw[List.take_length,List.take_length,List.append_assoc]
 ·rw[List.take_length,List.append_nil]
theorem ne (p:an) (q:aE) (sch:List Int):eG p q sch (sch.length+1)=bI p q sch:=by
 unfold eG bI;rw[Fo]
theorem rL (p:an) (q:aE) (sch:List Int) (j:Nat):eG p q sch (j+1)=eG p q sch j++bE p sch j p.rules.length:=by
 unfold eG;rw[List.range_succ,List.flatMap_append,List.append_assoc];simp
theorem jZ (p:an) (sch:List Int) (j:Nat) (l:List Vb):l++bE p sch j 0=l:=by simp[bE]
theorem nf {p:an} {q:aE} (hv:aU p q=0) (k:Nat):(vr p q k).length<=9:=by
 have h:=bk (bl hv).vld
 have a:=bu (bl hv).start
 have b:=bu h.ini.1
 have c:=h.len
 have d:(cC p q).length<=6:=by unfold cC;split<;>omega
 unfold vr
 simp only[List.length_append,List.length_cons,List.length_nil,List.length_map,List.length_take]
 omega
theorem rM {p:an} {q:aE} (hv:aU p q=0) (k:Nat):(rK p q k).length<=15:=by
 have h:=bk (bl hv).vld
 have a:=nf hv (cC p q).length
 have b:=bu h.ini.1
 have c:=h.len
 unfold rK
 simp only[List.length_append,List.length_map,List.length_take]
 omega
theorem ng {p:an} {q:aE} (hv:aU p q=0) {sch:List Int} (hs:eM (ar p.rules).length sch) (j:Nat) (hj:j<=sch.length+1):(eG p q sch j).length<=79:=by
 have w:=bk (bl hv).vld
 have a:(Dc p q).length<=15:=by
  unfold Dc
  split
  ·exact rM hv _
  ·have:=nf hv (cC p q).length;omega
 have b:=oF p sch p.rules.length j
 have c:=dF hs
 have d:=w.thr
 have e:=w.len
 have f:2*p.rules.length*j<=16*4:=Nat.mul_le_mul (by omega) (by omega)
 unfold eG
 rw[List.length_append]
 omega
theorem oT (p:an) (q:aE) (hv:aU p q=0) (sch:List Int) (hs:eM (ar p.rules).length sch):ab Tryz.prog 115 [.pd (du p q), .sl 0 ao sch] (fun u=>u= .sl cw d7 (bI p q sch)):=by
 have w:=bk (bl hv).vld
 have hle:=w.len
 have hT:=w.thr
 have hsl:=dF hs
 have hst:(cC p q).length<=6:=by
  have a:=bu (bl hv).start
  have b:=bu w.ini.1
  unfold cC;split<;>omega
 have hil:p.initial.length<=6:=by have b:=bu w.ini.1;omega
 refine ab.intro ac ae Tryz.func115 rfl (by decide) ?_;(conv=>whnf)
 refine bD cw d7 [⟨0,0,0⟩,⟨1,0,0⟩,⟨2,0,0⟩] rfl ?_
 conv=>whnf
 refine aF.loopF ac ae (fun k:Nat=>k<=(cC p q).length) (fun k=>[(15, .top),(21, .int .i64 (k:Int)),(5, .row 1000 (vr p q k).length 3)]) (fun k=>[(1000,qv (vr p q k))]) (fun k=>(cC p q).length-k) 0 (Nat.zero_le _) ?_;conv=>whnf
 refine⟨aR.by_ [(1000, .old 15)] _ 400 rfl (aa) (aa),?_⟩
 rintro k hk
 conv=>whnf
 refine ag ?_ ?_<;>(intro h1;conv=>whnf)
 ·have hlt:k<(cC p q).length:=by omega
  have hal:=nf hv k
  refine nI ?_
  rw[tN]
  conv=>whnf
  refine bD cw d7 [⟨3,0,(cC p q).getD k 0⟩] rfl ?_
  conv=>whnf
  refine bQ [⟨3,0,(cC p q).getD k 0⟩] rfl lI ?_
  conv=>whnf
  repeat' ((first|refine nI ?_|refine aI ?_|refine tI ?_|refine fI ?_|fail);conv=>whnf)
  refine⟨k+1,?_,by omega,by dsimp only;omega⟩
  dsimp only
  rw[AK p q hlt]
  exact aR.by_ [(1000, .old 29)] _ 400 rfl (aa) (aa)
 obtain rfl:k=(cC p q).length:=by omega
 refine dC (gn p q) (fun _=>?_) (fun _=>?_)<;>(conv=>whnf)
 ·rename_i hw
  have hC:eG p q sch 0=rK p q p.initial.length:=by unfold eG Dc;rw[if_pos hw];simp
  refine aF.loopF ac ae (fun k:Nat=>k<=p.initial.length) (fun k=>[(39, .int .i64 (k:Int)),(5, .row 1000 (rK p q k).length 3)]) (fun k=>[(1000,qv (rK p q k))]) (fun k=>p.initial.length-k) 0 (Nat.zero_le _) ?_;conv=>whnf
  refine⟨by rw[show rK p q 0=vr p q (cC p q).length by unfold rK;simp];exact sI,?_⟩
  rintro k hk2
  conv=>whnf
  refine ag ?_ ?_<;>(intro h3;conv=>whnf)
  ·have hlt:k<p.initial.length:=by omega
   have hbl:=rM hv k
   refine nI ?_
   rw[tN]
   conv=>whnf
   refine bD cw d7 [⟨4,0,p.initial.getD k 0⟩] rfl ?_
   conv=>whnf
   refine bQ [⟨4,0,p.initial.getD k 0⟩] rfl lI ?_
   conv=>whnf
   repeat' ((first|refine nI ?_|refine aI ?_|refine tI ?_|refine fI ?_|fail);conv=>whnf)
   refine⟨k+1,?_,by omega,by dsimp only;omega⟩
   dsimp only
   rw[AM p q hlt]
   exact aR.by_ [(1000, .old 47)] _ 400 rfl (aa) (aa)
  obtain rfl:k=p.initial.length:=by omega
  refine aI ?_
  conv=>whnf
  refine aF.loopF ac ae (fun j:Nat=>j<=sch.length+1) (fun j=>[(52, .int .i64 (j:Int)),(5, .row 1000 (eG p q sch j).length 3)]) (fun j=>[(1000,qv (eG p q sch j))]) (fun j=>sch.length+1-j) 0 (Nat.zero_le _) ?_;conv=>whnf
  refine⟨by rw[hC];exact sI,?_⟩
  rintro j hj
  conv=>whnf
  refine ag ?_ ?_<;>(intro h1;conv=>whnf)
  ·have hDl:=ng hv hs j hj
   refine aF.loopF ac ae (fun r:Nat=>r<=p.rules.length) (fun r=>[(61, .int .i64 (r:Int)),(5, .row 1000 (eG p q sch j++bE p sch j r).length 3)]) (fun r=>[(1000,qv (eG p q sch j++bE p sch j r))]) (fun r=>p.rules.length-r) 0 (Nat.zero_le _) ?_;conv=>whnf
   refine⟨by rw[jZ];exact sI,?_⟩
   rintro r hr
   conv=>whnf
   refine ag ?_ ?_<;>(intro h2;conv=>whnf)
   ·have hrl:r<p.rules.length:=by omega
    have hsl:=ir p sch j r
    have hll:(eG p q sch j++bE p sch j r).length<=1000:=by rw[List.length_append];omega
    refine dC (tT p q (bl hv).vld sch hs r j hrl (by omega)) (fun _=>?_) (fun _=>?_)<;>(conv=>whnf)
    ·rename_i ha
     refine bD cw d7 [⟨5,j,r⟩] rfl ?_
     conv=>whnf
     refine bQ [⟨5,j,r⟩] rfl lI ?_
     conv=>whnf
     refine dC (gn p q) (fun _=>?_) (fun _=>?_)<;>(conv=>whnf)
     ·rename_i hw
      have e:eG p q sch j++bE p sch j (r+1)=eG p q sch j++bE p sch j r++[⟨5,j,r⟩]++[⟨6,j,r⟩]:=by
       rw[cY,pn,if_pos ha,if_pos hw,List.append_assoc,List.append_assoc];rfl
      refine bD cw d7 [⟨6,j,r⟩] rfl ?_
      conv=>whnf
      refine bQ [⟨6,j,r⟩] rfl (by simp only[List.length_append,List.length_cons,List.length_nil] at hll⊢;omega) ?_
      conv=>whnf
      repeat' ((first|refine nI ?_|refine aI ?_|refine tI ?_|refine fI ?_|fail);conv=>whnf)
      refine⟨r+1,?_,by omega,by dsimp only;omega⟩
      dsimp only
      rw[e]
      exact aR.by_ [(1000, .old 83)] _ 400 rfl (aa) (aa)
     ·rename_i hw
      have e:eG p q sch j++bE p sch j (r+1)=eG p q sch j++bE p sch j r++[⟨5,j,r⟩]:=by
       rw[cY,pn,if_pos ha,if_neg hw,List.append_assoc]
      repeat' ((first|refine nI ?_|refine aI ?_|refine tI ?_|refine fI ?_|fail);conv=>whnf)
      refine⟨r+1,?_,by omega,by dsimp only;omega⟩
      dsimp only
      rw[e]
      exact aR.by_ [(1000, .old 75)] _ 400 rfl (aa) (aa)
    ·rename_i ha
     have e:eG p q sch j++bE p sch j (r+1)=eG p q sch j++bE p sch j r:=by
      rw[cY,pn,if_neg ha,List.append_nil]
     repeat' ((first|refine nI ?_|refine aI ?_|refine tI ?_|refine fI ?_|fail);conv=>whnf)
     refine⟨r+1,?_,by omega,by dsimp only;omega⟩
     dsimp only
     rw[e]
     exact sI
   ·obtain rfl:r=p.rules.length:=by omega
    have e:=rL p q sch j
    repeat' ((first|refine nI ?_|refine aI ?_|refine tI ?_|refine fI ?_|fail);conv=>whnf)
    refine⟨j+1,?_,by omega,by dsimp only;omega⟩
    dsimp only
    rw[e]
    exact sI
  ·obtain rfl:j=sch.length+1:=by omega
   rw[ne]
   exact⟨rfl,rfl⟩
 ·rename_i hw
  have hC:eG p q sch 0=vr p q (cC p q).length:=by unfold eG Dc;rw[if_neg hw];simp
  refine aI ?_
  conv=>whnf
  refine aF.loopF ac ae (fun j:Nat=>j<=sch.length+1) (fun j=>[(52, .int .i64 (j:Int)),(5, .row 1000 (eG p q sch j).length 3)]) (fun j=>[(1000,qv (eG p q sch j))]) (fun j=>sch.length+1-j) 0 (Nat.zero_le _) ?_;conv=>whnf
  refine⟨by rw[hC];exact sI,?_⟩
  rintro j hj
  conv=>whnf
  refine ag ?_ ?_<;>(intro h1;conv=>whnf)
  ·have hDl:=ng hv hs j hj
   refine aF.loopF ac ae (fun r:Nat=>r<=p.rules.length) (fun r=>[(61, .int .i64 (r:Int)),(5, .row 1000 (eG p q sch j++bE p sch j r).length 3)]) (fun r=>[(1000,qv (eG p q sch j++bE p sch j r))]) (fun r=>p.rules.length-r) 0 (Nat.zero_le _) ?_;conv=>whnf
   refine⟨by rw[jZ];exact sI,?_⟩
   rintro r hr
   conv=>whnf
   refine ag ?_ ?_<;>(intro h2;conv=>whnf)
   ·have hrl:r<p.rules.length:=by omega
    have hsl:=ir p sch j r
    have hll:(eG p q sch j++bE p sch j r).length<=1000:=by rw[List.length_append];omega
    refine dC (tT p q (bl hv).vld sch hs r j hrl (by omega)) (fun _=>?_) (fun _=>?_)<;>(conv=>whnf)
    ·rename_i ha
     refine bD cw d7 [⟨5,j,r⟩] rfl ?_
     conv=>whnf
     refine bQ [⟨5,j,r⟩] rfl lI ?_
     conv=>whnf
     refine dC (gn p q) (fun _=>?_) (fun _=>?_)<;>(conv=>whnf)
     ·rename_i hw
      have e:eG p q sch j++bE p sch j (r+1)=eG p q sch j++bE p sch j r++[⟨5,j,r⟩]++[⟨6,j,r⟩]:=by
       rw[cY,pn,if_pos ha,if_pos hw,List.append_assoc,List.append_assoc];rfl
      refine bD cw d7 [⟨6,j,r⟩] rfl ?_
      conv=>whnf
      refine bQ [⟨6,j,r⟩] rfl (by simp only[List.length_append,List.length_cons,List.length_nil] at hll⊢;omega) ?_
      conv=>whnf
      repeat' ((first|refine nI ?_|refine aI ?_|refine tI ?_|refine fI ?_|fail);conv=>whnf)
      refine⟨r+1,?_,by omega,by dsimp only;omega⟩
      dsimp only
      rw[e]
      exact aR.by_ [(1000, .old 83)] _ 400 rfl (aa) (aa)
     ·rename_i hw
      have e:eG p q sch j++bE p sch j (r+1)=eG p q sch j++bE p sch j r++[⟨5,j,r⟩]:=by
       rw[cY,pn,if_pos ha,if_neg hw,List.append_assoc]
      repeat' ((first|refine nI ?_|refine aI ?_|refine tI ?_|refine fI ?_|fail);conv=>whnf)
      refine⟨r+1,?_,by omega,by dsimp only;omega⟩
      dsimp only
      rw[e]
      exact aR.by_ [(1000, .old 75)] _ 400 rfl (aa) (aa)
    ·rename_i ha
     have e:eG p q sch j++bE p sch j (r+1)=eG p q sch j++bE p sch j r:=by
      rw[cY,pn,if_neg ha,List.append_nil]
     repeat' ((first|refine nI ?_|refine aI ?_|refine tI ?_|refine fI ?_|fail);conv=>whnf)
     refine⟨r+1,?_,by omega,by dsimp only;omega⟩
     dsimp only
     rw[e]
     exact sI
   ·obtain rfl:r=p.rules.length:=by omega
    have e:=rL p q sch j
    repeat' ((first|refine nI ?_|refine aI ?_|refine tI ?_|refine fI ?_|fail);conv=>whnf)
    refine⟨j+1,?_,by omega,by dsimp only;omega⟩
    dsimp only
    rw[e]
    exact sI
  ·obtain rfl:j=sch.length+1:=by omega
   rw[ne]
   exact⟨rfl,rfl⟩
def Fp (p:an) (q:aE) (sch:List Int):AV:=if dl p q≠0 then .tup [.nilsl, .int .i64 (dl p q)] else if¬eM (ar p.rules).length sch then .tup [.nilsl, .int .i64 1] else .tup [.sl cw d7 (bI p q sch), .int .i64 0]
theorem gp {p:an} {q:aE} (h:dl p q=0):aU p q=0:=by
 refine Classical.byContradiction fun hh=>?_
 rw[dl,if_pos hh] at h
 exact hh h
theorem rN {p:an} {q:aE} (h:dl p q=0):c9 p/\g6 p q:=by
 have h1:=gp h
 rw[dl,if_neg (by omega)] at h
 refine Classical.byContradiction fun hh=>?_
 rw[if_pos hh] at h
 omega
theorem Fq {p:an} {q:aE} (h:dl p q=0):wA p q<=64:=by
 have h1:=gp h
 have h2:=rN h
 rw[dl,if_neg (by omega),if_neg (fun hh=>hh h2)] at h
 refine Classical.byContradiction fun hh=>?_
 rw[if_pos (by omega)] at h
 omega
theorem vt (p:an) (q:aE) (hp:g7 p) (hq:qk q) (sch:List Int) (hl:sch.length<=140737488355328):ab Tryz.prog 47 [.agg (aB p), .agg (cJ q), .sl 0 ao sch] (fun u=>u=Fp p q sch):=by
 have he:=Fp.eq_1 p q sch
 refine ab.intro ac ae Tryz.func47 rfl (by decide) ?_;(conv=>whnf)
 refine ak rfl ?_
 conv=>whnf
 refine ak rfl ?_
 conv=>whnf
 refine am.of_pure (n:=5) (tQ p q hp hq) (by rfl) ?_
 rintro _ rfl
 by_cases h:dl p q=0
 ·rw[if_neg (by omega)] at he
  rw[i4 h]
  conv=>whnf
  refine fI ?_
  conv=>whnf
  refine dC (qu p q sch hl) (fun _=>?_) (fun _=>?_)<;>(conv=>whnf)
  ·rename_i hs
   rw[if_neg (fun hh=>hh hs)] at he
   (refine oP (oT p q (gp h) sch hs) ?_;conv=>whnf)
   exact⟨he.symm,rfl⟩
  ·rename_i hs
   rw[if_pos hs] at he
   exact⟨he.symm,rfl⟩
 ·rw[if_pos h] at he
  rw[fT rfl h]
  conv=>whnf
  refine eI h ?_
  conv=>whnf
  exact⟨he.symm,rfl⟩
end Go.Proofs.YtekmminpfhacpaaGreatDoor
