import Derived.Test.YtekmminpfhacpaaGreatDoorFwX
set_option linter.unusedVariables false
set_option linter.unusedSimpArgs false
namespace Go.Proofs.YtekmminpfhacpaaGreatDoor
set_option maxRecDepth 100000
set_option maxHeartbeats 16000000
theorem QE {p:av} (hv:aX p=0):NA p:=by
 have hb:=rV hv
 have hle:=rQ hb
 exact⟨by omega,fun j hj=>by have:=CA (vC hb hj);omega⟩
def fE (p:av) (q:aP):List AV:=[.str p.name, .int .i64 p.topology, .sl t0 fo p.states, .sl t0 fo p.messages, .sl t0 fo p.values, .int .i64 p.fault, .sl eX cq p.resilience, .sl 0 al p.initial, .sl 0 al p.leader, .sl ax iL p.rules,
 .str q.name, .int .i64 q.kind, .sl 0 al q.start, .sl b9 iQ q.bad, .sl 0 al q.adjacent, .sl 0 al q.goal, .sl aM cg (ay p.rules), .sl 0 al (dJ p q), .int .i64 (db p q:Int)]
def PO (p:av) (q:aP) (k:Int):List AV:=[.str p.name, .int .i64 p.topology, .sl t0 fo p.states, .sl t0 fo p.messages, .sl t0 fo p.values, .int .i64 p.fault, .sl eX cq p.resilience, .sl 0 al p.initial, .sl 0 al p.leader, .sl ax iL p.rules,
 .str q.name, .int .i64 q.kind, .sl 0 al q.start, .sl b9 iQ q.bad, .sl 0 al q.adjacent, .sl 0 al q.goal, .sl aM cg (ay p.rules), .sl 0 al (dJ p q), .int .i64 k]
theorem zj (p:av) (hp:lO p) (hv:aX p=0):ah Tryz.prog 104 [.agg (cV p)] (fun u=>u= .tup [.sl aM cg (ay p.rules), .int .i64 0]):=by
 refine ah.intro ab ac Tryz.func104 rfl (by decide) ?_;(conv=>whnf)
 refine au rfl ?_
 conv=>whnf
 (refine oP (qr p hp) ?_;conv=>whnf)
 refine fI ?_
 conv=>whnf
 (refine oP (ri p (QE hv)) ?_;conv=>whnf)
 exact⟨rfl,rfl⟩
theorem ol (l:List Int) (h0:0<l.length) (hl:l.length<=1000):ah Tryz.prog 39 [.sl 0 al l] (fun u=>u= .sl 0 al l):=by
 refine ah.intro ab ac Tryz.func39 rfl (by decide) ?_;(conv=>whnf)
 refine bg (fun e=>by rw[e] at h0;simp at h0) ?_
 conv=>whnf
 refine bp 0 al [] rfl ?_
 conv=>whnf
 refine bq _ rfl (by simp only[List.length_nil];omega) ?_
 conv=>whnf
 exact⟨rfl,rfl⟩
theorem JV (p:av) (q:aP) (hv:bD p q=0):ah Tryz.prog 101 [.agg (cV p), .agg (eO q)] (fun u=>u= .tup [.sl 0 al (dJ p q), .int .i64 0]):=by
 have hq:=zh hv
 have hp:=rV (aW hv).vld
 have hle:=rQ hp
 have hlq:=w6 hq
 have hi:=(aN (aW hv).vld).ini
 have he:=dJ.eq_1 p q
 refine ah.intro ab ac Tryz.func101 rfl (by decide) ?_;(conv=>whnf)
 refine au rfl ?_
 conv=>whnf
 refine au rfl ?_
 conv=>whnf
 (refine oP (vL p q (LN hp) (LZ hq)) ?_;conv=>whnf)
 refine fI ?_
 conv=>whnf
 refine ae ?_ ?_<;>(intro h1;conv=>whnf)
 ·rw[if_pos (by omega)] at he
  (refine oP (ol q.start (by omega) (by omega)) ?_;conv=>whnf)
  exact⟨he▸rfl,rfl⟩
 ·rw[if_neg (by omega)] at he
  (refine oP (ol p.initial (by omega) (by omega)) ?_;conv=>whnf)
  exact⟨he▸rfl,rfl⟩
theorem Ew (p:av) (q:aP) (hp:lO p) (hq:rS q) (hv:bD p q≠0):ah Tryz.prog 101 [.agg (cV p), .agg (eO q)] (fun u=>u= .tup [.nilsl, .int .i64 (bD p q)]):=by
 refine ah.intro ab ac Tryz.func101 rfl (by decide) ?_;(conv=>whnf)
 refine au rfl ?_
 conv=>whnf
 refine au rfl ?_
 conv=>whnf
 (refine oP (vL p q hp hq) ?_;conv=>whnf)
 refine cO hv ?_
 conv=>whnf
 exact⟨rfl,rfl⟩
theorem Ex (x:cf) (q:aP) (hq:q.goal.length<=4503599627370496):ah Tryz.prog 192 [.agg (iL x), .pd (eO q)] (fun u=>u= .bool (decide (x.src∈q.goal/\x.dst∉q.goal))):=by
 refine ah.intro ab ac Tryz.func192 rfl (by decide) ?_;(conv=>whnf)
 refine au rfl ?_
 conv=>whnf
 refine dC (dB q.goal _ hq) (fun _=>?_) (fun _=>?_)<;>(conv=>whnf)
 ·rename_i h1
  refine dC (dB q.goal _ hq) (fun _=>?_) (fun _=>?_)<;>(conv=>whnf)
  ·rename_i h2;exact⟨aA (fun h=>h.2 h2),rfl⟩
  ·rename_i h2;exact⟨bE ⟨h1,h2⟩,rfl⟩
 ·rename_i h1;exact⟨aA (fun h=>h1 h.1),rfl⟩
def Ey (l:List cf) (q:aP):Prop:=∃j,j<l.length/\(l.getD j ax).src∈q.goal/\(l.getD j ax).dst∉q.goal
instance (l:List cf) (q:aP):Decidable (Ey l q):=inferInstanceAs (Decidable (∃j,j<l.length/\_))
theorem GO (l:List cf) (q:aP) (hl:l.length<=4503599627370496) (hq:q.goal.length<=4503599627370496):ah Tryz.prog 267 [.sl ax iL l, .fn 192 [.pd (eO q)]] (fun u=>∃n:Int,u= .int .i64 n/\(0<=n↔Ey l q)):=by
 refine ah.intro ab ac Tryz.func267 rfl (by decide) ?_;(conv=>whnf)
 refine aJ.loopF ab ac (fun k:Nat=>k<=l.length/\∀j,j<k->¬((l.getD j ax).src∈q.goal/\(l.getD j ax).dst∉q.goal)) (fun k=>[(8, .int .i64 (k:Int))]) (fun _=>[]) (fun k=>l.length-k) 0 ⟨by omega,fun j hj=>by omega⟩ ?_;conv=>whnf
 refine⟨sI,?_⟩
 rintro k ⟨hk,ha⟩
 conv=>whnf
 refine ae ?_ ?_<;>(intro h1;conv=>whnf)
 ·refine nI ?_
  rw[tN]
  conv=>whnf
  refine dC (Ex (l.getD k ax) q hq) (fun _=>?_) (fun _=>?_)<;>(conv=>whnf)
  ·rename_i h2
   exact⟨⟨k,rfl,fun _=>⟨k,by omega,h2⟩,fun _=>by omega⟩,rfl⟩
  ·rename_i h2
   repeat' first|(refine at_ ?_;conv=>whnf)|(refine ae ?_ ?_<;>(intro _;conv=>whnf))
   refine⟨k+1,sI,⟨by omega,fun j hj=>?_⟩,by dsimp only;omega⟩
   by_cases e:j=k
   ·subst e;exact h2
   ·exact ha j (by omega)
 ·exact⟨⟨-1,rfl,fun h=>by omega,fun⟨j,h1,h2⟩=>absurd h2 (ha j (by omega))⟩,rfl⟩
theorem GP (l:List cf) (q:aP) (hl:l.length<=4503599627370496) (hq:q.goal.length<=4503599627370496):ah Tryz.prog 191 [.sl ax iL l, .fn 192 [.pd (eO q)]] (fun u=>u= .bool (decide (Ey l q))):=by
 refine ah.intro ab ac Tryz.func191 rfl (by decide) ?_;(conv=>whnf)
 refine aj.of_pure (n:=5) (GO l q hl hq) rfl ?_
 rintro _ ⟨n,rfl,hn⟩
 conv=>whnf
 refine ae ?_ ?_<;>(intro h;conv=>whnf)
 ·exact⟨bE (hn.1 h),rfl⟩
 ·exact⟨aA (fun hh=>h (hn.2 hh)),rfl⟩
theorem GQ (p:av) (q:aP) (hk:q.kind=1\/q.kind=2) (hl:p.rules.length<=4503599627370496) (hq:q.goal.length<=4503599627370496):ah Tryz.prog 103 [.agg (cV p), .agg (eO q)] (fun u=>u= .bool (decide (od p q))):=by
 have key:q.kind=2->(od p q↔¬Ey p.rules q):=fun h2=>by
  unfold od Ey
  constructor
  ·rintro h ⟨j,h3,h4,h5⟩;exact h5 (h h2 j h3 h4)
  ·intro h _ j h3 h4
   exact Classical.byContradiction fun h5=>h ⟨j,h3,h4,h5⟩
 refine ah.intro ab ac Tryz.func103 rfl (by decide) ?_;(conv=>whnf)
 refine au rfl ?_
 conv=>whnf
 refine au rfl ?_
 conv=>whnf
 refine ae ?_ ?_<;>(intro h;conv=>whnf)
 ·exact⟨bE (fun h2=>by omega),rfl⟩
 ·have k:=key (by omega)
  refine aj.borrow (n:=5) (GP p.rules q hl hq) rfl (by rintro _ rfl;rfl) ?_
  rintro _ rfl
  by_cases ho:Ey p.rules q
  ·rw[decide_eq_true ho]
   conv=>whnf
   exact⟨aA (fun h=>k.1 h ho),rfl⟩
  ·rw[decide_eq_false ho]
   conv=>whnf
   exact⟨bE (k.2 ho),rfl⟩
def zk (p:av) (q:aP):AV:=if dq p q=0 then .tup [.pd (fE p q), .int .i64 0] else .tup [.val (.pointer none), .int .i64 (dq p q)]
theorem gz {p:av} {q:aP} {e:Int} (h:dq p q=e) (h0:e≠0):zk p q= .tup [.val (.pointer none), .int .i64 e]:=by unfold zk;rw[if_neg (by omega),h]
theorem ja {p:av} {q:aP} (h:dq p q=0):zk p q= .tup [.pd (fE p q), .int .i64 0]:=by unfold zk;rw[if_pos h]
theorem ew {p:av} (hv:aX p=0):∀j,j<p.rules.length->(p.rules.getD j ax).guards.length<=2:=fun j hj=>by
 have v:=aN hv
 obtain⟨_,_,h3,_,_,h6⟩:=jz (v.rul j hj)
 by_cases k:(p.rules.getD j ax).kind=1
 ·unfold dN at h6
  rw[if_pos k] at h6
  exact tE (cI h6 (ci p.messages.length (p.rules.getD j ax).guards) (by simp))
 ·unfold jI at h3;omega
theorem KU {p:av} (hv:aX p=0) {k:Nat} (hk:k<=p.rules.length):uN p.rules k<=6561:=by
 have a:=Gr (ew hv) k hk
 have b:=(aN hv).len
 have c:(3:Nat)^k<=3^8:=Nat.pow_le_pow_right (by omega) (by omega)
 omega
theorem tS (p:av) (q:aP) (hp:lO p) (hq:rS q):ah Tryz.prog 36 [.agg (cV p), .agg (eO q)] (fun u=>u=zk p q):=by
 have he:=dq.eq_1 p q
 have hle:=kj hp
 have hlq:=w7 hq
 refine ah.intro ab ac Tryz.func36 rfl (by decide) ?_;(conv=>whnf)
 refine au rfl ?_
 conv=>whnf
 refine au rfl ?_
 conv=>whnf
 by_cases h1:bD p q=0
 case neg=>
  rw[if_pos h1] at he
  (refine oP (Ew p q hp hq h1) ?_;conv=>whnf)
  refine cO h1 ?_
  conv=>whnf
  exact⟨(gz he h1).symm,rfl⟩
 rw[if_neg (by omega)] at he
 have w:=aW h1
 have hv:=w.vld
 (refine oP (JV p q h1) ?_;conv=>whnf)
 refine fI ?_
 conv=>whnf
 refine aj.of_pure (n:=5) (Mh p hp hv) rfl ?_
 rintro _ ⟨b,c,d,e,rfl⟩
 by_cases ht:mE p
 case neg=>
  rw[decide_eq_false ht]
  rw[if_pos (fun h=>ht h.1)] at he
  conv=>whnf
  exact⟨(gz he (by omega)).symm,rfl⟩
 rw[decide_eq_true ht]
 conv=>whnf
 refine dC (GQ p q w.kind (by omega) (by omega)) (fun _=>?_) (fun _=>?_)<;>(conv=>whnf)
 case refine_2=>
  rename_i hs
  rw[if_pos (fun h=>hs h.2)] at he
  exact⟨(gz he (by omega)).symm,rfl⟩
 rename_i hs
 rw[if_neg (fun h=>h ⟨ht,hs⟩)] at he
 (refine oP (zj p hp hv) ?_;conv=>whnf)
 refine DM ?_
 conv=>whnf
 refine ae ?_ ?_<;>(intro hk;conv=>whnf)
 ·have hN:db p q=uN p.rules p.rules.length:=by unfold db;rw[if_pos hk]
  refine aJ.loopF ab ac (fun k:Nat=>k<=p.rules.length) (fun k=>[(55, .int .i64 (k:Int)),(12, .ptr 48 0)]) (fun k=>[(8, .box 175 [.bool true, .bool b, .bool c, .bool d, .bool e]),(48, .box 106 (PO p q (uN p.rules k:Int)))]) (fun k=>p.rules.length-k) 0 (Nat.zero_le _) ?_;conv=>whnf
  refine⟨sI,?_⟩
  rintro k hk'
  conv=>whnf
  refine ae ?_ ?_<;>(intro h2;conv=>whnf)
  ·have hlt:k<p.rules.length:=by omega
   refine nI ?_
   rw[tN]
   conv=>whnf
   have hg:=ew hv k hlt
   have hc:=KU hv (k:=k) (by omega)
   have hn:(uN p.rules (k+1):Int)=(uN p.rules k:Int)*(1+((p.rules.getD k ax).guards.length:Int)):=by rw[uN];push_cast;rfl
   have hb:(uN p.rules k:Int)*(1+((p.rules.getD k ax).guards.length:Int))<=6561*3:=Int.mul_le_mul (by omega) (by omega) (by omega) (by omega)
   have hb0:0<=(uN p.rules k:Int)*(1+((p.rules.getD k ax).guards.length:Int)):=Int.mul_nonneg (by omega) (by omega)
   first|refine dI ?_|refine eI (by decide+kernel) ?_
   conv=>whnf
   refine aI ?_
   conv=>whnf
   refine aI ?_
   conv=>whnf
   repeat' (refine dt ?_;conv=>whnf)
   refine⟨k+1,?_,by omega,by dsimp only;omega⟩
   dsimp only
   rw[hn]
   exact sI
  ·obtain rfl:k=p.rules.length:=by omega
   rw[<-hN]
   refine ae ?_ ?_<;>(intro h3;conv=>whnf)
   ·rw[if_pos (by omega)] at he
    exact⟨(gz he (by omega)).symm,rfl⟩
   ·rw[if_neg (by omega)] at he
    exact⟨(ja he).symm,rfl⟩
 ·have hN:db p q=1:=by unfold db;rw[if_neg hk]
  rw[hN,if_neg (by omega)] at he
  repeat' (refine dt ?_;conv=>whnf)
  refine⟨?_,rfl⟩
  rw[ja he]
  unfold fE
  rw[hN]
  rfl
theorem Mi (p:av) (q:aP) (hp:lO p) (hq:rS q):ah Tryz.prog 18 [.agg (cV p), .agg (eO q)] (fun u=>u= .int .i64 (dq p q)):=by
 refine ah.intro ab ac Tryz.func18 rfl (by decide) ?_;(conv=>whnf)
 refine au rfl ?_
 conv=>whnf
 refine au rfl ?_
 conv=>whnf
 refine aj.of_pure (n:=5) (tS p q hp hq) (by rfl) ?_
 rintro _ rfl
 by_cases h:dq p q=0
 ·rw[ja h]
  conv=>whnf
  exact⟨ao h.symm,rfl⟩
 ·rw[gz rfl h]
  conv=>whnf
  exact⟨rfl,rfl⟩
def uF:List fH->fH->Int
 |[],_=>-1
 |a::l,g=>if a=g then 0 else if uF l g<0 then -1 else uF l g+1
theorem zl {g:fH}:∀{l:List fH},g∉l->uF l g=-1
 |[],_=>rfl
 |a::l,h=>by
  rw[List.mem_cons,not_or] at h
  rw[uF,if_neg (fun e=>h.1 e.symm),zl h.2,if_pos (by omega)]
theorem GR {g:fH}:∀{l:List fH} {k:Nat},k<l.length->g∉l.take k->l.getD k aM=g->uF l g=(k:Int)
 |[],k,h,_,_=>by simp at h
 |a::l,0,_,_,h=>by rw[uF,if_pos (show a=g from h)];rfl
 |a::l,k+1,h,h1,h2=>by
  rw[List.take_succ_cons,List.mem_cons,not_or] at h1
  have:=GR (l:=l) (k:=k) (by simpa using h) h1.2 h2
  rw[uF,if_neg (fun e=>h1.1 e.symm),this,if_neg (by omega)]
  omega
theorem CM (g:fH):∀l:List fH,-1<=uF l g/\uF l g<l.length
 |[]=>by simp[uF]
 |a::l=>by
  have:=CM g l
  rw[uF]
  simp only[List.length_cons]
  split
  ·omega
  ·split<;>omega
theorem CN {g:fH}:∀{l:List fH},g∈l->0<=uF l g/\l.getD (uF l g).toNat aM=g
 |a::l,h=>by
  rw[uF]
  by_cases e:a=g
  ·rw[if_pos e];exact⟨by omega,e⟩
  ·rw[if_neg e]
   obtain⟨h1,h2⟩:=CN (l:=l) (by rcases List.mem_cons.1 h with h|h;exact absurd h.symm e;exact h)
   rw[if_neg (by omega)]
   refine⟨by omega,?_⟩
   rw[show(uF l g+1).toNat=(uF l g).toNat+1 by omega]
   exact h2
theorem Bp {acc:List fH} {g:fH} (h:acc.Nodup):(jJ acc g).Nodup:=by
 unfold jJ
 split
 ·exact h
 ·rename_i hm
  rw[List.nodup_append]
  exact⟨h,by simp,fun a ha b hb e=>by rw[List.mem_singleton] at hb;subst hb;subst e;exact hm ha⟩
theorem rm:∀(gs acc:List fH),acc.Nodup->(gs.foldl jJ acc).Nodup
 |[],_,h=>h
 |g::gs,acc,h=>rm gs _ (Bp h)
theorem Bq (rs:List cf):(ay rs).Nodup:=rm _ _ (by simp)
theorem GS {acc:List fH} {g x:fH} (h:x∈acc):x∈jJ acc g:=by
 unfold jJ
 split
 ·exact h
 ·exact List.mem_append_left _ h
theorem Ez (acc:List fH) (g:fH):g∈jJ acc g:=by
 unfold jJ
 split
 ·assumption
 ·exact List.mem_append_right _ (List.mem_singleton.2 rfl)
theorem vS:∀(gs acc:List fH) (x:fH),x∈acc\/x∈gs->x∈gs.foldl jJ acc
 |[],_,x,h=>by rcases h with h|h;exact h;cases h
 |g::gs,acc,x,h=>by
  rw[List.foldl_cons]
  refine vS gs _ x ?_
  rcases h with h|h
  ·exact .inl (GS h)
  ·rcases List.mem_cons.1 h with rfl|h
   ·exact .inl (Ez acc x)
   ·exact .inr h
theorem zm {rs:List cf} {j:Nat} (hj:j<rs.length) {g:fH} (h:g∈(rs.getD j ax).guards):g∈ay rs:=by
 refine vS _ _ g (.inr (List.mem_flatMap.2 ⟨rs.getD j ax,bu _ hj,h⟩))
theorem GT {T:List fH} (hn:T.Nodup) {g:fH} (hg:g∈T) {sch:List Int} (hs:dS T.length sch) {j:Nat} (hj:j<=sch.length):uF T g∈sch.take j↔∃i,i<j/\T.getD (sch.getD i 0).toNat aM=g:=by
 obtain⟨h0,h1⟩:=CN hg
 have hr:=CM g T
 constructor
 ·intro h
  obtain⟨i,hi,e⟩:=List.mem_take_iff_getElem.1 h
  refine⟨i,by omega,?_⟩
  rw[ap 0 (by omega),e]
  exact h1
 ·rintro⟨i,hi,e⟩
  have hb:=(hs i (by omega)).1
  have e2:sch.getD i 0=uF T g:=by
   have a:(sch.getD i 0).toNat<T.length:=by omega
   have b:(uF T g).toNat<T.length:=by omega
   rw[ap aM a] at e
   rw[ap aM b] at h1
   have:=(List.getElem_inj hn).1 (e.trans h1.symm)
   omega
  exact List.mem_take_iff_getElem.2 ⟨i,by omega,by rw[<-e2,ap 0 (by omega)]⟩
theorem EB (l:List fH) (g:fH) (hl:l.length<=4503599627370496):ah Tryz.prog 271 [.sl aM cg l, .agg (cg g)] (fun u=>u= .int .i64 (uF l g)):=by
 refine ah.intro ab ac Tryz.func271 rfl (by decide) ?_;(conv=>whnf)
 refine au rfl ?_
 conv=>whnf
 refine aJ.loopF ab ac (fun k:Nat=>k<=l.length/\g∉l.take k) (fun k=>[(8, .int .i64 (k:Int))]) (fun _=>[]) (fun k=>l.length-k) 0 ⟨by omega,by simp⟩ ?_;conv=>whnf
 refine⟨sI,?_⟩
 rintro k ⟨hk,ha⟩
 conv=>whnf
 repeat' first|(refine at_ ?_;conv=>whnf)|(refine ae ?_ ?_<;>(intro _;conv=>whnf))
 ·rename_i h1 h2
  rw[tN] at h2
  have h2:g=l.getD k aM:=jx.1 h2
  refine⟨ao ?_,rfl⟩
  rw[GR (by omega) ha h2.symm]
 ·rename_i h1 h2
  rw[tN] at h2
  refine⟨k+1,sI,⟨by omega,?_⟩,by dsimp only;omega⟩
  rw[cp aM (by omega),List.mem_append,List.mem_singleton,not_or]
  exact⟨ha,fun e=>h2 (jx.2 e)⟩
 ·obtain rfl:k=l.length:=by omega
  rw[List.take_length] at ha
  exact⟨ao (zl ha).symm,rfl⟩
theorem jA (p:av) (q:aP):ah Tryz.prog 108 [.pd (fE p q)] (fun u=>u= .bool (decide (jZ p))):=by
 refine ah.intro ab ac Tryz.func108 rfl (by decide) ?_;(conv=>whnf)
 refine ae ?_ ?_<;>(intro h;conv=>whnf)
 ·exact⟨bE (.inl h),rfl⟩
 ·refine ae ?_ ?_<;>(intro h2;conv=>whnf)
  ·exact⟨bE (.inr h2),rfl⟩
  ·exact⟨aA (fun hh=>by rcases hh with hh|hh;exact h hh;exact h2 hh),rfl⟩
theorem vT (p:av) (q:aP) (l:List Int) (hl:l.length<=140737488355328):ah Tryz.prog 85 [.pd (fE p q), .sl 0 al l] (fun u=>u= .bool (decide (dS (ay p.rules).length l))):=by
 refine ah.intro ab ac Tryz.func85 rfl (by decide) ?_;(conv=>whnf)
 refine aJ.loopF ab ac (fun k:Nat=>k<=l.length/\∀i,i<k->(0<=l.getD i 0/\l.getD i 0<(ay p.rules).length)/\l.getD i 0∉l.take i) (fun k=>[(9, .int .i64 (k:Int))]) (fun _=>[]) (fun k=>l.length-k) 0 ⟨by omega,fun i hi=>by omega⟩ ?_;conv=>whnf
 refine⟨sI,?_⟩
 rintro k ⟨hk,ha⟩
 conv=>whnf
 refine ae ?_ ?_<;>(intro h1;conv=>whnf)
 ·have hlt:k<l.length:=by omega
  refine nI ?_
  rw[tN]
  conv=>whnf
  refine ae ?_ ?_<;>(intro h2;conv=>whnf)
  ·exact⟨aA (fun h=>by have:=(h k hlt).1.1;omega),rfl⟩
  refine ae ?_ ?_<;>(intro h3;conv=>whnf)
  ·exact⟨aA (fun h=>by have:=(h k hlt).1.2;omega),rfl⟩
  refine nI ?_
  rw[tN]
  conv=>whnf
  refine dC (dB (l.take k) (l.getD k 0) (by simp;omega)) (fun _=>?_) (fun _=>?_)<;>(conv=>whnf)
  ·rename_i h4
   exact⟨aA (fun h=>(h k hlt).2 h4),rfl⟩
  ·rename_i h4
   repeat' (refine dt ?_;conv=>whnf)
   refine⟨k+1,sI,⟨by omega,fun i hi=>?_⟩,by dsimp only;omega⟩
   by_cases e:i=k
   ·subst e;exact⟨⟨by omega,by omega⟩,h4⟩
   ·exact ha i (by omega)
 ·exact⟨bE (fun i hi=>ha i (by omega)),rfl⟩
def GU (p:av) (number m:Nat):List Int:=List.replicate (p.rules.length-m) 0++(rk p number).drop (p.rules.length-m)
theorem zn (p:av) (number:Nat):GU p number 0=List.replicate p.rules.length 0:=by
 unfold GU
 rw[Nat.sub_zero,List.drop_of_length_le (by rw[lu];omega),List.append_nil]
theorem CO (p:av) (number:Nat):GU p number p.rules.length=rk p number:=by
 unfold GU
 rw[Nat.sub_self]
 simp
theorem CP (p:av) {number m:Nat} (h:m<=p.rules.length):(GU p number m).length=p.rules.length:=by
 unfold GU
 rw[List.length_append,List.length_replicate,List.length_drop,lu]
 omega
theorem GV (p:av) {number m:Nat} (h:m<p.rules.length):(GU p number m).set (p.rules.length-1-m) (Bi p.rules number (p.rules.length-1-m):Int)=GU p number (m+1):=by
 unfold GU
 have e1:p.rules.length-m=(p.rules.length-1-m)+1:=by omega
 have e2:p.rules.length-(m+1)=p.rules.length-1-m:=by omega
 have e3:(rk p number).drop (p.rules.length-1-m)=(Bi p.rules number (p.rules.length-1-m):Int)::(rk p number).drop (p.rules.length-1-m+1):=by
  rw[List.drop_eq_getElem_cons (by rw[lu];omega)]
  congr 1
  rw[<-rX (by omega),ap 0 (by rw[lu];omega)]
 rw[e1,e2,e3,List.replicate_succ',List.append_assoc,List.set_append_right _ _ (by simp)]
 simp
theorem JW (p:av) (q:aP) (hv:aX p=0) (number:Nat) (hn:number<=1000000):ah Tryz.prog 199 [.pd (fE p q), .int .i64 (number:Int)] (fun u=>u=if q.kind=1 then .nilsl else .sl 0 al (rk p number)):=by
 have hl:=(aN hv).len
 refine ah.intro ab ac Tryz.func199 rfl (by decide) ?_;(conv=>whnf)
 refine ae ?_ ?_<;>(intro hk;conv=>whnf)
 ·exact⟨by rw[if_pos hk];rfl,rfl⟩
 rw[if_neg hk]
 refine x7 0 al 0 rfl (by dsimp only;omega) ?_
 rw[tN]
 conv=>whnf
 refine aI ?_
 conv=>whnf
 have hch:∀m,uO p.rules number m<=number:=by
  intro m
  induction m with
  |zero=>exact Nat.le_refl _
  |succ m ih=>rw[uO];exact Nat.le_trans (Nat.div_le_self _ _) ih
 refine aJ.loopF ab ac (fun m:Nat=>m<=p.rules.length) (fun m=>[(6, .int .i64 ((p.rules.length:Int)-1-(m:Int))),(1, .int .i64 (uO p.rules number m:Int))]) (fun m=>[(20,fW (GU p number m))]) (fun m=>p.rules.length-m) 0 (Nat.zero_le _) ?_;conv=>whnf
 refine⟨by rw[zn];exact sI,?_⟩
 rintro m hm
 conv=>whnf
 refine ae ?_ ?_<;>(intro h1;conv=>whnf)
 ·have hlt:m<p.rules.length:=by omega
  have ei:((p.rules.length:Int)-1-(m:Int)).toNat=p.rules.length-1-m:=by omega
  refine nI ?_
  rw[ei]
  conv=>whnf
  have hg:=ew hv (p.rules.length-1-m) (by omega)
  have hc:=hch m
  have hup:=GV p (number:=number) hlt
  have ed:Bi p.rules number (p.rules.length-1-m)=uO p.rules number m % (1+(p.rules.getD (p.rules.length-1-m) ax).guards.length):=by unfold Bi;rw[show p.rules.length-1-(p.rules.length-1-m)=m by omega]
  have eq:uO p.rules number (m+1)=uO p.rules number m / (1+(p.rules.getD (p.rules.length-1-m) ax).guards.length):=rfl
  have hlen:=CP p (number:=number) (m:=m) (by omega)
  generalize (p.rules.getD (p.rules.length-1-m) ax).guards.length=g at hg ed eq
  have e1g:(1+(g:Int))=((1+g:Nat):Int):=by push_cast;rfl
  have et:((uO p.rules number m:Nat):Int).tdiv (1+(g:Int))=((uO p.rules number (m+1):Nat):Int):=by rw[e1g,eq,Int.ofNat_tdiv]
  have er:((uO p.rules number m:Nat):Int).tmod (1+(g:Int))=((Bi p.rules number (p.rules.length-1-m):Nat):Int):=by rw[e1g,ed,Int.ofNat_tmod]
  have hc1:=hch (m+1)
  refine aI ?_
  conv=>whnf
  first|refine dI ?_|refine eI (by decide+kernel) ?_
  conv=>whnf
  repeat' (refine dt ?_;conv=>whnf)
  rw[et]
  refine nK (by omega) (by omega) ?_
  conv=>whnf
  repeat' (refine dt ?_;conv=>whnf)
  rw[er,ei]
  refine ak ((Bi p.rules number (p.rules.length-1-m):Nat):Int) rfl ?_
  conv=>whnf
  repeat' (refine dt ?_;conv=>whnf)
  refine⟨m+1,?_,by omega,by dsimp only;omega⟩
  dsimp only
  rw[<-hup]
  exact sI
 ·obtain rfl:m=p.rules.length:=by omega
  rw[CO]
  exact⟨rfl,rfl⟩
theorem zo (p:av) (q:aP) (hv:aX p=0) (sch:List Int) (hs:dS (ay p.rules).length sch) (r j:Nat) (hr:r<p.rules.length) (hj:j<=sch.length):ah Tryz.prog 210 [.pd (fE p q), .int .i64 (r:Int), .sl 0 al sch, .int .i64 (j:Int)] (fun u=>u= .bool (decide (En (ay p.rules) sch j (p.rules.getD r ax)))):=by
 have hT:=(aN hv).thr
 have hsl:=cu hs
 have hg2:=ew hv r hr
 have hin:∀g∈(p.rules.getD r ax).guards,(uF (ay p.rules) g∈sch.take j↔∃i,i<j/\(ay p.rules).getD (sch.getD i 0).toNat aM=g):=fun g hg=>GT (Bq _) (zm hr hg) hs hj
 refine ah.intro ab ac Tryz.func210 rfl (by decide) ?_;(conv=>whnf)
 refine nI ?_
 rw[tN]
 generalize p.rules.getD r ax=x at hin hg2
 conv=>whnf
 refine aJ.loopF ab ac (fun k:Nat=>k<=x.guards.length/\∀i,i<k->∃m,m<j/\(ay p.rules).getD (sch.getD m 0).toNat aM=x.guards.getD i aM) (fun k=>[(21, .int .i64 (k:Int))]) (fun _=>[]) (fun k=>x.guards.length-k) 0 ⟨by omega,fun i hi=>by omega⟩ ?_;conv=>whnf
 refine⟨sI,?_⟩
 rintro k ⟨hk,ha⟩
 conv=>whnf
 refine ae ?_ ?_<;>(intro h1;conv=>whnf)
 ·have hlt:k<x.guards.length:=by omega
  refine nI ?_
  rw[tN]
  have hgm:=hin _ (bu (l:=x.guards) aM hlt)
  conv=>whnf
  refine dI ?_
  conv=>whnf
  refine nI ?_
  rw[tN]
  conv=>whnf
  (refine oC (EB (ay p.rules) (x.guards.getD k aM) (by omega)) ?_;conv=>whnf)
  refine dD (dB (sch.take j) (uF (ay p.rules) (x.guards.getD k aM)) (by simp;omega)) (fun _=>?_) (fun _=>?_)<;>(conv=>whnf)
  ·rename_i h2
   repeat' (refine dt ?_;conv=>whnf)
   refine⟨k+1,sI,⟨by omega,fun i hi=>?_⟩,by dsimp only;omega⟩
   by_cases e:i=k
   ·subst e;exact hgm.1 h2
   ·exact ha i (by omega)
  ·rename_i h2
   exact⟨aA (fun h=>h2 (hgm.2 (h _ (bu (l:=x.guards) aM hlt)))),rfl⟩
 ·refine⟨bE (fun g hg=>?_),rfl⟩
  obtain⟨i,hi,e⟩:=List.getElem_of_mem hg
  have:=ha i (by omega)
  rwa [ap aM hi,e] at this
def vU (l:List Vb):bf:=.row 252 d8 fM l
def Bs (p:av) (q:aP) (k:Nat):List Vb:=[⟨0,0,0⟩,⟨1,0,0⟩,⟨2,0,0⟩]++((dJ p q).take k).map (fun x=>⟨3,0,x⟩)
def xh (p:av) (q:aP) (k:Nat):List Vb:=Bs p q (dJ p q).length++(p.initial.take k).map (fun x=>(⟨4,0,x⟩:Vb))
def JX (p:av) (q:aP):List Vb:=if jZ p then xh p q p.initial.length else Bs p q (dJ p q).length
def gC (p:av) (q:aP) (sch:List Int) (j:Nat):List Vb:=JX p q++(List.range j).flatMap fun j=>cB p sch j p.rules.length
theorem GW (p:av) (q:aP) {k:Nat} (h:k<(dJ p q).length):Bs p q (k+1)=Bs p q k++[⟨3,0,(dJ p q).getD k 0⟩]:=by
 unfold Bs;rw[cp 0 h,List.map_append,List.append_assoc];rfl
theorem GX (p:av) (q:aP) {k:Nat} (h:k<p.initial.length):xh p q (k+1)=xh p q k++[⟨4,0,p.initial.getD k 0⟩]:=by
 unfold xh;rw[cp 0 h,List.map_append,List.append_assoc];rfl
theorem Mj (p:av) (q:aP):JX p q=[⟨0,0,0⟩,⟨1,0,0⟩,⟨2,0,0⟩]++CI p q:=by
 unfold JX xh Bs CI
 split
 ·rw[List.take_length,List.take_length,List.append_assoc]
 ·rw[List.take_length,List.append_nil]
theorem r3 (p:av) (q:aP) (sch:List Int):gC p q sch (sch.length+1)=az p q sch:=by
 unfold gC az;rw[Mj]
theorem xi (p:av) (q:aP) (sch:List Int) (j:Nat):gC p q sch (j+1)=gC p q sch j++cB p sch j p.rules.length:=by
 unfold gC;rw[List.range_succ,List.flatMap_append,List.append_assoc];simp
theorem nm (p:av) (sch:List Int) (j:Nat) (l:List Vb):l++cB p sch j 0=l:=by simp[cB]
theorem r4 {p:av} {q:aP} (hv:bD p q=0) (k:Nat):(Bs p q k).length<=9:=by
 have h:=aN (aW hv).vld
 have a:=bN (aW hv).start
 have b:=bN h.ini.1
 have c:=h.len
 have d:(dJ p q).length<=6:=by unfold dJ;split<;>omega
 unfold Bs
 simp only[List.length_append,List.length_cons,List.length_nil,List.length_map,List.length_take]
 omega
theorem xj {p:av} {q:aP} (hv:bD p q=0) (k:Nat):(xh p q k).length<=15:=by
 have h:=aN (aW hv).vld
 have a:=r4 hv (dJ p q).length
 have b:=bN h.ini.1
 have c:=h.len
 unfold xh
 simp only[List.length_append,List.length_map,List.length_take]
 omega
theorem r5 {p:av} {q:aP} (hv:bD p q=0) {sch:List Int} (hs:dS (ay p.rules).length sch) (j:Nat) (hj:j<=sch.length+1):(gC p q sch j).length<=79:=by
 have w:=aN (aW hv).vld
 have a:(JX p q).length<=15:=by
  unfold JX
  split
  ·exact xj hv _
  ·have:=r4 hv (dJ p q).length;omega
 have b:=tJ p sch p.rules.length j
 have c:=cu hs
 have d:=w.thr
 have e:=w.len
 have f:2*p.rules.length*j<=16*4:=Nat.mul_le_mul (by omega) (by omega)
 unfold gC
 rw[List.length_append]
 omega
theorem tT (p:av) (q:aP) (hv:bD p q=0) (sch:List Int) (hs:dS (ay p.rules).length sch):ah Tryz.prog 115 [.pd (fE p q), .sl 0 al sch] (fun u=>u= .sl d8 fM (az p q sch)):=by
 have w:=aN (aW hv).vld
 have hle:=w.len
 have hT:=w.thr
 have hsl:=cu hs
 have hst:(dJ p q).length<=6:=by
  have a:=bN (aW hv).start
  have b:=bN w.ini.1
  unfold dJ;split<;>omega
 have hil:p.initial.length<=6:=by have b:=bN w.ini.1;omega
 refine ah.intro ab ac Tryz.func115 rfl (by decide) ?_;(conv=>whnf)
 refine bp d8 fM [⟨0,0,0⟩,⟨1,0,0⟩,⟨2,0,0⟩] rfl ?_
 conv=>whnf
 refine aJ.loopF ab ac (fun k:Nat=>k<=(dJ p q).length) (fun k=>[(15, .top),(21, .int .i64 (k:Int)),(5, .row 1000 (Bs p q k).length 3)]) (fun k=>[(1000,vU (Bs p q k))]) (fun k=>(dJ p q).length-k) 0 (Nat.zero_le _) ?_;conv=>whnf
 refine⟨aH.by_ [(1000, .old 15)] _ 400 rfl (aa) (aa),?_⟩
 rintro k hk
 conv=>whnf
 refine ae ?_ ?_<;>(intro h1;conv=>whnf)
 ·have hlt:k<(dJ p q).length:=by omega
  have hal:=r4 hv k
  refine nI ?_
  rw[tN]
  conv=>whnf
  refine bp d8 fM [⟨3,0,(dJ p q).getD k 0⟩] rfl ?_
  conv=>whnf
  refine bq [⟨3,0,(dJ p q).getD k 0⟩] rfl lI ?_
  conv=>whnf
  repeat' (refine dt ?_;conv=>whnf)
  refine⟨k+1,?_,by omega,by dsimp only;omega⟩
  dsimp only
  rw[GW p q hlt]
  exact aH.by_ [(1000, .old 29)] _ 400 rfl (aa) (aa)
 obtain rfl:k=(dJ p q).length:=by omega
 refine dC (jA p q) (fun _=>?_) (fun _=>?_)<;>(conv=>whnf)
 ·rename_i hw
  have hC:gC p q sch 0=xh p q p.initial.length:=by unfold gC JX;rw[if_pos hw];simp
  refine aJ.loopF ab ac (fun k:Nat=>k<=p.initial.length) (fun k=>[(39, .int .i64 (k:Int)),(5, .row 1000 (xh p q k).length 3)]) (fun k=>[(1000,vU (xh p q k))]) (fun k=>p.initial.length-k) 0 (Nat.zero_le _) ?_;conv=>whnf
  refine⟨by rw[show xh p q 0=Bs p q (dJ p q).length by unfold xh;simp];exact sI,?_⟩
  rintro k hk2
  conv=>whnf
  refine ae ?_ ?_<;>(intro h3;conv=>whnf)
  ·have hlt:k<p.initial.length:=by omega
   have hbl:=xj hv k
   refine nI ?_
   rw[tN]
   conv=>whnf
   refine bp d8 fM [⟨4,0,p.initial.getD k 0⟩] rfl ?_
   conv=>whnf
   refine bq [⟨4,0,p.initial.getD k 0⟩] rfl lI ?_
   conv=>whnf
   repeat' (refine dt ?_;conv=>whnf)
   refine⟨k+1,?_,by omega,by dsimp only;omega⟩
   dsimp only
   rw[GX p q hlt]
   exact aH.by_ [(1000, .old 47)] _ 400 rfl (aa) (aa)
  obtain rfl:k=p.initial.length:=by omega
  refine aI ?_
  conv=>whnf
  refine aJ.loopF ab ac (fun j:Nat=>j<=sch.length+1) (fun j=>[(52, .int .i64 (j:Int)),(5, .row 1000 (gC p q sch j).length 3)]) (fun j=>[(1000,vU (gC p q sch j))]) (fun j=>sch.length+1-j) 0 (Nat.zero_le _) ?_;conv=>whnf
  refine⟨by rw[hC];exact sI,?_⟩
  rintro j hj
  conv=>whnf
  refine ae ?_ ?_<;>(intro h1;conv=>whnf)
  ·have hDl:=r5 hv hs j hj
   refine aJ.loopF ab ac (fun r:Nat=>r<=p.rules.length) (fun r=>[(61, .int .i64 (r:Int)),(5, .row 1000 (gC p q sch j++cB p sch j r).length 3)]) (fun r=>[(1000,vU (gC p q sch j++cB p sch j r))]) (fun r=>p.rules.length-r) 0 (Nat.zero_le _) ?_;conv=>whnf
   refine⟨by rw[nm];exact sI,?_⟩
   rintro r hr
   conv=>whnf
   refine ae ?_ ?_<;>(intro h2;conv=>whnf)
   ·have hrl:r<p.rules.length:=by omega
    have hsl:=kA p sch j r
    have hll:(gC p q sch j++cB p sch j r).length<=1000:=by rw[List.length_append];omega
    refine dC (zo p q (aW hv).vld sch hs r j hrl (by omega)) (fun _=>?_) (fun _=>?_)<;>(conv=>whnf)
    ·rename_i ha
     refine bp d8 fM [⟨5,j,r⟩] rfl ?_
     conv=>whnf
     refine bq [⟨5,j,r⟩] rfl lI ?_
     conv=>whnf
     refine dC (jA p q) (fun _=>?_) (fun _=>?_)<;>(conv=>whnf)
     ·rename_i hw
      have e:gC p q sch j++cB p sch j (r+1)=gC p q sch j++cB p sch j r++[⟨5,j,r⟩]++[⟨6,j,r⟩]:=by
       rw[eK,uD,if_pos ha,if_pos hw,List.append_assoc,List.append_assoc];rfl
      refine bp d8 fM [⟨6,j,r⟩] rfl ?_
      conv=>whnf
      refine bq [⟨6,j,r⟩] rfl (by simp only[List.length_append,List.length_cons,List.length_nil] at hll⊢;omega) ?_
      conv=>whnf
      repeat' (refine dt ?_;conv=>whnf)
      refine⟨r+1,?_,by omega,by dsimp only;omega⟩
      dsimp only
      rw[e]
      exact aH.by_ [(1000, .old 83)] _ 400 rfl (aa) (aa)
     ·rename_i hw
      have e:gC p q sch j++cB p sch j (r+1)=gC p q sch j++cB p sch j r++[⟨5,j,r⟩]:=by
       rw[eK,uD,if_pos ha,if_neg hw,List.append_assoc]
      repeat' (refine dt ?_;conv=>whnf)
      refine⟨r+1,?_,by omega,by dsimp only;omega⟩
      dsimp only
      rw[e]
      exact aH.by_ [(1000, .old 75)] _ 400 rfl (aa) (aa)
    ·rename_i ha
     have e:gC p q sch j++cB p sch j (r+1)=gC p q sch j++cB p sch j r:=by
      rw[eK,uD,if_neg ha,List.append_nil]
     repeat' (refine dt ?_;conv=>whnf)
     refine⟨r+1,?_,by omega,by dsimp only;omega⟩
     dsimp only
     rw[e]
     exact sI
   ·obtain rfl:r=p.rules.length:=by omega
    have e:=xi p q sch j
    repeat' (refine dt ?_;conv=>whnf)
    refine⟨j+1,?_,by omega,by dsimp only;omega⟩
    dsimp only
    rw[e]
    exact sI
  ·obtain rfl:j=sch.length+1:=by omega
   rw[r3]
   exact⟨rfl,rfl⟩
 ·rename_i hw
  have hC:gC p q sch 0=Bs p q (dJ p q).length:=by unfold gC JX;rw[if_neg hw];simp
  refine aI ?_
  conv=>whnf
  refine aJ.loopF ab ac (fun j:Nat=>j<=sch.length+1) (fun j=>[(52, .int .i64 (j:Int)),(5, .row 1000 (gC p q sch j).length 3)]) (fun j=>[(1000,vU (gC p q sch j))]) (fun j=>sch.length+1-j) 0 (Nat.zero_le _) ?_;conv=>whnf
  refine⟨by rw[hC];exact sI,?_⟩
  rintro j hj
  conv=>whnf
  refine ae ?_ ?_<;>(intro h1;conv=>whnf)
  ·have hDl:=r5 hv hs j hj
   refine aJ.loopF ab ac (fun r:Nat=>r<=p.rules.length) (fun r=>[(61, .int .i64 (r:Int)),(5, .row 1000 (gC p q sch j++cB p sch j r).length 3)]) (fun r=>[(1000,vU (gC p q sch j++cB p sch j r))]) (fun r=>p.rules.length-r) 0 (Nat.zero_le _) ?_;conv=>whnf
   refine⟨by rw[nm];exact sI,?_⟩
   rintro r hr
   conv=>whnf
   refine ae ?_ ?_<;>(intro h2;conv=>whnf)
   ·have hrl:r<p.rules.length:=by omega
    have hsl:=kA p sch j r
    have hll:(gC p q sch j++cB p sch j r).length<=1000:=by rw[List.length_append];omega
    refine dC (zo p q (aW hv).vld sch hs r j hrl (by omega)) (fun _=>?_) (fun _=>?_)<;>(conv=>whnf)
    ·rename_i ha
     refine bp d8 fM [⟨5,j,r⟩] rfl ?_
     conv=>whnf
     refine bq [⟨5,j,r⟩] rfl lI ?_
     conv=>whnf
     refine dC (jA p q) (fun _=>?_) (fun _=>?_)<;>(conv=>whnf)
     ·rename_i hw
      have e:gC p q sch j++cB p sch j (r+1)=gC p q sch j++cB p sch j r++[⟨5,j,r⟩]++[⟨6,j,r⟩]:=by
       rw[eK,uD,if_pos ha,if_pos hw,List.append_assoc,List.append_assoc];rfl
      refine bp d8 fM [⟨6,j,r⟩] rfl ?_
      conv=>whnf
      refine bq [⟨6,j,r⟩] rfl (by simp only[List.length_append,List.length_cons,List.length_nil] at hll⊢;omega) ?_
      conv=>whnf
      repeat' (refine dt ?_;conv=>whnf)
      refine⟨r+1,?_,by omega,by dsimp only;omega⟩
      dsimp only
      rw[e]
      exact aH.by_ [(1000, .old 83)] _ 400 rfl (aa) (aa)
     ·rename_i hw
      have e:gC p q sch j++cB p sch j (r+1)=gC p q sch j++cB p sch j r++[⟨5,j,r⟩]:=by
       rw[eK,uD,if_pos ha,if_neg hw,List.append_assoc]
      repeat' (refine dt ?_;conv=>whnf)
      refine⟨r+1,?_,by omega,by dsimp only;omega⟩
      dsimp only
      rw[e]
      exact aH.by_ [(1000, .old 75)] _ 400 rfl (aa) (aa)
    ·rename_i ha
     have e:gC p q sch j++cB p sch j (r+1)=gC p q sch j++cB p sch j r:=by
      rw[eK,uD,if_neg ha,List.append_nil]
     repeat' (refine dt ?_;conv=>whnf)
     refine⟨r+1,?_,by omega,by dsimp only;omega⟩
     dsimp only
     rw[e]
     exact sI
   ·obtain rfl:r=p.rules.length:=by omega
    have e:=xi p q sch j
    repeat' (refine dt ?_;conv=>whnf)
    refine⟨j+1,?_,by omega,by dsimp only;omega⟩
    dsimp only
    rw[e]
    exact sI
  ·obtain rfl:j=sch.length+1:=by omega
   rw[r3]
   exact⟨rfl,rfl⟩
def Mk (p:av) (q:aP) (sch:List Int):AV:=if dq p q≠0 then .tup [.nilsl, .int .i64 (dq p q)] else if¬dS (ay p.rules).length sch then .tup [.nilsl, .int .i64 1] else .tup [.sl d8 fM (az p q sch), .int .i64 0]
theorem du {p:av} {q:aP} (h:dq p q=0):bD p q=0:=by
 refine Classical.byContradiction fun hh=>?_
 rw[dq,if_pos hh] at h
 exact hh h
theorem CQ {p:av} {q:aP} (h:dq p q=0):mE p/\od p q:=by
 have h1:=du h
 rw[dq,if_neg (by omega)] at h
 refine Classical.byContradiction fun hh=>?_
 rw[if_pos hh] at h
 omega
theorem om {p:av} {q:aP} (h:dq p q=0):db p q<=64:=by
 have h1:=du h
 have h2:=CQ h
 rw[dq,if_neg (by omega),if_neg (fun hh=>hh h2)] at h
 refine Classical.byContradiction fun hh=>?_
 rw[if_pos (by omega)] at h
 omega
theorem Bt (p:av) (q:aP) (hp:lO p) (hq:rS q) (sch:List Int) (hl:sch.length<=140737488355328):ah Tryz.prog 47 [.agg (cV p), .agg (eO q), .sl 0 al sch] (fun u=>u=Mk p q sch):=by
 have he:=Mk.eq_1 p q sch
 refine ah.intro ab ac Tryz.func47 rfl (by decide) ?_;(conv=>whnf)
 refine au rfl ?_
 conv=>whnf
 refine au rfl ?_
 conv=>whnf
 refine aj.of_pure (n:=5) (tS p q hp hq) (by rfl) ?_
 rintro _ rfl
 by_cases h:dq p q=0
 ·rw[if_neg (by omega)] at he
  rw[ja h]
  conv=>whnf
  refine fI ?_
  conv=>whnf
  refine dC (vT p q sch hl) (fun _=>?_) (fun _=>?_)<;>(conv=>whnf)
  ·rename_i hs
   rw[if_neg (fun hh=>hh hs)] at he
   (refine oP (tT p q (du h) sch hs) ?_;conv=>whnf)
   exact⟨he.symm,rfl⟩
  ·rename_i hs
   rw[if_pos hs] at he
   exact⟨he.symm,rfl⟩
 ·rw[if_pos h] at he
  rw[gz rfl h]
  conv=>whnf
  refine cO h ?_
  conv=>whnf
  exact⟨he.symm,rfl⟩
end Go.Proofs.YtekmminpfhacpaaGreatDoor
