import Derived.Test.YtekmminpfhacpaaGreatDoorFwX
set_option linter.unusedVariables false
set_option linter.unusedSimpArgs false
namespace Go.Proofs.YtekmminpfhacpaaGreatDoor
set_option maxRecDepth 100000
set_option maxHeartbeats 16000000
theorem Oy {p:an} (hv:aA p=0):Mf p:=by
 have hb:=eW hv
 have hle:=bL hb
 exact⟨by omega,fun j hj=>by have:=i6 (ii hb hj);omega⟩
def dQ (p:an) (q:aG):List AV:=[.str p.name, .int .i64 p.topology, .sl t0 fd p.states, .sl t0 fd p.messages, .sl t0 fd p.values, .int .i64 p.fault, .sl fQ cI p.resilience, .sl 0 ao p.initial, .sl 0 ao p.leader, .sl ap eg p.rules,
 .str q.name, .int .i64 q.kind, .sl 0 ao q.start, .sl br gR q.bad, .sl 0 ao q.adjacent, .sl 0 ao q.goal, .sl aC b8 (ax p.rules), .sl 0 ao (bw p q), .int .i64 (oX p q:Int)]
def NU (p:an) (q:aG) (k:Int):List AV:=[.str p.name, .int .i64 p.topology, .sl t0 fd p.states, .sl t0 fd p.messages, .sl t0 fd p.values, .int .i64 p.fault, .sl fQ cI p.resilience, .sl 0 ao p.initial, .sl 0 ao p.leader, .sl ap eg p.rules,
 .str q.name, .int .i64 q.kind, .sl 0 ao q.start, .sl br gR q.bad, .sl 0 ao q.adjacent, .sl 0 ao q.goal, .sl aC b8 (ax p.rules), .sl 0 ao (bw p q), .int .i64 k]
theorem pC (p:an) (hp:iO p) (hv:aA p=0):ab Tryz.prog 104 [.agg (aR p)] (fun u=>u= .tup [.sl aC b8 (ax p.rules), .int .i64 0]):=by
 refine ab.intro ae ag Tryz.func104 rfl (by decide) ?_;(conv=>whnf)
 refine al rfl ?_
 conv=>whnf
 (refine oP (c9 p hp) ?_;conv=>whnf)
 refine fI ?_
 conv=>whnf
 (refine oP (pA p (Oy hv)) ?_;conv=>whnf)
 exact⟨rfl,rfl⟩
theorem mM (l:List Int) (h0:0<l.length) (hl:l.length<=1000):ab Tryz.prog 39 [.sl 0 ao l] (fun u=>u= .sl 0 ao l):=by
 refine ab.intro ae ag Tryz.func39 rfl (by decide) ?_;(conv=>whnf)
 refine bX (fun e=>by rw[e] at h0;simp at h0) ?_
 conv=>whnf
 refine cf 0 ao [] rfl ?_
 conv=>whnf
 refine cz _ rfl (by simp only[List.length_nil];omega) ?_
 conv=>whnf
 exact⟨rfl,rfl⟩
theorem Io (p:an) (q:aG) (hv:aP p q=0):ab Tryz.prog 101 [.agg (aR p), .agg (df q)] (fun u=>u= .tup [.sl 0 ao (bw p q), .int .i64 0]):=by
 have hq:=nz hv
 have hp:=eW (aF hv).vld
 have hle:=bL hp
 have hlq:=kg hq
 have hi:=(aL (aF hv).vld).ini
 have he:=bw.eq_1 p q
 refine ab.intro ae ag Tryz.func101 rfl (by decide) ?_;(conv=>whnf)
 refine al rfl ?_
 conv=>whnf
 refine al rfl ?_
 conv=>whnf
 (refine oP (jA p q (lj hp) (yN hq)) ?_;conv=>whnf)
 refine fI ?_
 conv=>whnf
 refine ah ?_ ?_<;>(intro h1;conv=>whnf)
 ·rw[if_pos (by omega)] at he
  (refine oP (mM q.start (by omega) (by omega)) ?_;conv=>whnf)
  exact⟨he▸rfl,rfl⟩
 ·rw[if_neg (by omega)] at he
  (refine oP (mM p.initial (by omega) (by omega)) ?_;conv=>whnf)
  exact⟨he▸rfl,rfl⟩
theorem Cp (p:an) (q:aG) (hp:iO p) (hq:pN q) (hv:aP p q≠0):ab Tryz.prog 101 [.agg (aR p), .agg (df q)] (fun u=>u= .tup [.nilsl, .int .i64 (aP p q)]):=by
 refine ab.intro ae ag Tryz.func101 rfl (by decide) ?_;(conv=>whnf)
 refine al rfl ?_
 conv=>whnf
 refine al rfl ?_
 conv=>whnf
 (refine oP (jA p q hp hq) ?_;conv=>whnf)
 refine cC hv ?_
 conv=>whnf
 exact⟨rfl,rfl⟩
theorem Cq (x:bo) (q:aG) (hq:q.goal.length<=4503599627370496):ab Tryz.prog 192 [.agg (eg x), .pd (df q)] (fun u=>u= .bool (decide (x.src∈q.goal/\x.dst∉q.goal))):=by
 refine ab.intro ae ag Tryz.func192 rfl (by decide) ?_;(conv=>whnf)
 refine al rfl ?_
 conv=>whnf
 refine dC (be q.goal _ hq) (fun _=>?_) (fun _=>?_)<;>(conv=>whnf)
 ·rename_i h1
  refine dC (be q.goal _ hq) (fun _=>?_) (fun _=>?_)<;>(conv=>whnf)
  ·rename_i h2;exact⟨au (fun h=>h.2 h2),rfl⟩
  ·rename_i h2;exact⟨aH ⟨h1,h2⟩,rfl⟩
 ·rename_i h1;exact⟨au (fun h=>h1 h.1),rfl⟩
def Cr (l:List bo) (q:aG):Prop:=∃j,j<l.length/\(l.getD j ap).src∈q.goal/\(l.getD j ap).dst∉q.goal
instance (l:List bo) (q:aG):Decidable (Cr l q):=inferInstanceAs (Decidable (∃j,j<l.length/\_))
theorem Fi (l:List bo) (q:aG) (hl:l.length<=4503599627370496) (hq:q.goal.length<=4503599627370496):ab Tryz.prog 267 [.sl ap eg l, .fn 192 [.pd (df q)]] (fun u=>∃n:Int,u= .int .i64 n/\(0<=n↔Cr l q)):=by
 refine ab.intro ae ag Tryz.func267 rfl (by decide) ?_;(conv=>whnf)
 refine aQ.loopF ae ag (fun k:Nat=>k<=l.length/\∀j,j<k->¬((l.getD j ap).src∈q.goal/\(l.getD j ap).dst∉q.goal)) (fun k=>[(8, .int .i64 (k:Int))]) (fun _=>[]) (fun k=>l.length-k) 0 ⟨by omega,fun j hj=>by omega⟩ ?_;conv=>whnf
 refine⟨sI,?_⟩
 rintro k ⟨hk,ha⟩
 conv=>whnf
 refine ah ?_ ?_<;>(intro h1;conv=>whnf)
 ·refine nI ?_
  rw[tN]
  conv=>whnf
  refine dC (Cq (l.getD k ap) q hq) (fun _=>?_) (fun _=>?_)<;>(conv=>whnf)
  ·rename_i h2
   exact⟨⟨k,rfl,fun _=>⟨k,by omega,h2⟩,fun _=>by omega⟩,rfl⟩
  ·rename_i h2
   repeat' ((first|refine nI ?_|refine aI ?_|refine fb trivial (by omega) ?_|refine fv trivial (by omega) ?_|refine dI ?_|refine dR ?_|refine dP ?_|refine al rfl ?_|refine pI _ rfl ?_|refine aw _ rfl ?_|refine tI ?_|refine fI ?_|refine ah (fun _=>?_) (fun _=>?_))<;>conv=>whnf)
   refine⟨k+1,sI,⟨by omega,fun j hj=>?_⟩,by dsimp only;omega⟩
   by_cases e:j=k
   ·subst e;exact h2
   ·exact ha j (by omega)
 ·exact⟨⟨-1,rfl,fun h=>by omega,fun⟨j,h1,h2⟩=>absurd h2 (ha j (by omega))⟩,rfl⟩
theorem Fj (l:List bo) (q:aG) (hl:l.length<=4503599627370496) (hq:q.goal.length<=4503599627370496):ab Tryz.prog 191 [.sl ap eg l, .fn 192 [.pd (df q)]] (fun u=>u= .bool (decide (Cr l q))):=by
 refine ab.intro ae ag Tryz.func191 rfl (by decide) ?_;(conv=>whnf)
 refine am.of_pure (n:=5) (Fi l q hl hq) rfl ?_
 rintro _ ⟨n,rfl,hn⟩
 conv=>whnf
 refine ah ?_ ?_<;>(intro h;conv=>whnf)
 ·exact⟨aH (hn.1 h),rfl⟩
 ·exact⟨au (fun hh=>h (hn.2 hh)),rfl⟩
theorem Fk (p:an) (q:aG) (hk:q.kind=1\/q.kind=2) (hl:p.rules.length<=4503599627370496) (hq:q.goal.length<=4503599627370496):ab Tryz.prog 103 [.agg (aR p), .agg (df q)] (fun u=>u= .bool (decide (ji p q))):=by
 have key:q.kind=2->(ji p q↔¬Cr p.rules q):=fun h2=>by
  unfold ji Cr
  constructor
  ·rintro h ⟨j,h3,h4,h5⟩;exact h5 (h h2 j h3 h4)
  ·intro h _ j h3 h4
   exact Classical.byContradiction fun h5=>h ⟨j,h3,h4,h5⟩
 refine ab.intro ae ag Tryz.func103 rfl (by decide) ?_;(conv=>whnf)
 refine al rfl ?_
 conv=>whnf
 refine al rfl ?_
 conv=>whnf
 refine ah ?_ ?_<;>(intro h;conv=>whnf)
 ·exact⟨aH (fun h2=>by omega),rfl⟩
 ·have k:=key (by omega)
  refine am.borrow (n:=5) (Fj p.rules q hl hq) rfl (by rintro _ rfl;rfl) ?_
  rintro _ rfl
  by_cases ho:Cr p.rules q
  ·rw[decide_eq_true ho]
   conv=>whnf
   exact⟨au (fun h=>k.1 h ho),rfl⟩
  ·rw[decide_eq_false ho]
   conv=>whnf
   exact⟨aH (k.2 ho),rfl⟩
def xd (p:an) (q:aG):AV:=if cb p q=0 then .tup [.pd (dQ p q), .int .i64 0] else .tup [.val (.pointer none), .int .i64 (cb p q)]
theorem eX {p:an} {q:aG} {e:Int} (h:cb p q=e) (h0:e≠0):xd p q= .tup [.val (.pointer none), .int .i64 e]:=by unfold xd;rw[if_neg (by omega),h]
theorem gy {p:an} {q:aG} (h:cb p q=0):xd p q= .tup [.pd (dQ p q), .int .i64 0]:=by unfold xd;rw[if_pos h]
theorem fq {p:an} (hv:aA p=0):∀j,j<p.rules.length->(p.rules.getD j ap).guards.length<=2:=fun j hj=>by
 have v:=aL hv
 obtain⟨_,_,h3,_,_,h6⟩:=iw (v.rul j hj)
 by_cases k:(p.rules.getD j ap).kind=1
 ·unfold cW at h6
  rw[if_pos k] at h6
  exact rf (ca h6 (aK p.messages.length (p.rules.getD j ap).guards) (by simp))
 ·unfold iQ at h3;omega
theorem JO {p:an} (hv:aA p=0) {k:Nat} (hk:k<=p.rules.length):p7 p.rules k<=6561:=by
 have a:=ER (fq hv) k hk
 have b:=(aL hv).len
 have c:(3:Nat)^k<=3^8:=Nat.pow_le_pow_right (by omega) (by omega)
 omega
theorem pD (p:an) (q:aG) (hp:iO p) (hq:pN q):ab Tryz.prog 36 [.agg (aR p), .agg (df q)] (fun u=>u=xd p q):=by
 have he:=cb.eq_1 p q
 have hle:=jh hp
 have hlq:=uB hq
 refine ab.intro ae ag Tryz.func36 rfl (by decide) ?_;(conv=>whnf)
 refine al rfl ?_
 conv=>whnf
 refine al rfl ?_
 conv=>whnf
 by_cases h1:aP p q=0
 case neg=>
  rw[if_pos h1] at he
  (refine oP (Cp p q hp hq h1) ?_;conv=>whnf)
  refine cC h1 ?_
  conv=>whnf
  exact⟨(eX he h1).symm,rfl⟩
 rw[if_neg (by omega)] at he
 have w:=aF h1
 have hv:=w.vld
 (refine oP (Io p q h1) ?_;conv=>whnf)
 refine fI ?_
 conv=>whnf
 refine am.of_pure (n:=5) (KX p hp hv) rfl ?_
 rintro _ ⟨b,c,d,e,rfl⟩
 by_cases ht:dZ p
 case neg=>
  rw[decide_eq_false ht]
  rw[if_pos (fun h=>ht h.1)] at he
  conv=>whnf
  exact⟨(eX he (by omega)).symm,rfl⟩
 rw[decide_eq_true ht]
 conv=>whnf
 refine dC (Fk p q w.kind (by omega) (by omega)) (fun _=>?_) (fun _=>?_)<;>(conv=>whnf)
 case refine_2=>
  rename_i hs
  rw[if_pos (fun h=>hs h.2)] at he
  exact⟨(eX he (by omega)).symm,rfl⟩
 rename_i hs
 rw[if_neg (fun h=>h ⟨ht,hs⟩)] at he
 (refine oP (pC p hp hv) ?_;conv=>whnf)
 refine BF ?_
 conv=>whnf
 refine ah ?_ ?_<;>(intro hk;conv=>whnf)
 ·have hN:oX p q=p7 p.rules p.rules.length:=by unfold oX;rw[if_pos hk]
  refine aQ.loopF ae ag (fun k:Nat=>k<=p.rules.length) (fun k=>[(55, .int .i64 (k:Int)),(12, .ptr 48 0)]) (fun k=>[(8, .box 175 [.bool true, .bool b, .bool c, .bool d, .bool e]),(48, .box 106 (NU p q (p7 p.rules k:Int)))]) (fun k=>p.rules.length-k) 0 (Nat.zero_le _) ?_;conv=>whnf
  refine⟨sI,?_⟩
  rintro k hk'
  conv=>whnf
  refine ah ?_ ?_<;>(intro h2;conv=>whnf)
  ·have hlt:k<p.rules.length:=by omega
   refine nI ?_
   rw[tN]
   conv=>whnf
   have hg:=fq hv k hlt
   have hc:=JO hv (k:=k) (by omega)
   have hn:(p7 p.rules (k+1):Int)=(p7 p.rules k:Int)*(1+((p.rules.getD k ap).guards.length:Int)):=by rw[p7];push_cast;rfl
   have hb:(p7 p.rules k:Int)*(1+((p.rules.getD k ap).guards.length:Int))<=6561*3:=Int.mul_le_mul (by omega) (by omega) (by omega) (by omega)
   have hb0:0<=(p7 p.rules k:Int)*(1+((p.rules.getD k ap).guards.length:Int)):=Int.mul_nonneg (by omega) (by omega)
   first|refine dI ?_|refine wG (by decide+kernel) ?_
   conv=>whnf
   refine aI ?_
   conv=>whnf
   refine aI ?_
   conv=>whnf
   repeat' ((first|refine nI ?_|refine aI ?_|refine tI ?_|refine fI ?_|fail);conv=>whnf)
   refine⟨k+1,?_,by omega,by dsimp only;omega⟩
   dsimp only
   rw[hn]
   exact sI
  ·obtain rfl:k=p.rules.length:=by omega
   rw[<-hN]
   refine ah ?_ ?_<;>(intro h3;conv=>whnf)
   ·rw[if_pos (by omega)] at he
    exact⟨(eX he (by omega)).symm,rfl⟩
   ·rw[if_neg (by omega)] at he
    exact⟨(gy he).symm,rfl⟩
 ·have hN:oX p q=1:=by unfold oX;rw[if_neg hk]
  rw[hN,if_neg (by omega)] at he
  repeat' ((first|refine nI ?_|refine aI ?_|refine tI ?_|refine fI ?_|fail);conv=>whnf)
  refine⟨?_,rfl⟩
  rw[gy he]
  unfold dQ
  rw[hN]
  rfl
theorem KY (p:an) (q:aG) (hp:iO p) (hq:pN q):ab Tryz.prog 18 [.agg (aR p), .agg (df q)] (fun u=>u= .int .i64 (cb p q)):=by
 refine ab.intro ae ag Tryz.func18 rfl (by decide) ?_;(conv=>whnf)
 refine al rfl ?_
 conv=>whnf
 refine al rfl ?_
 conv=>whnf
 refine am.of_pure (n:=5) (pD p q hp hq) (by rfl) ?_
 rintro _ rfl
 by_cases h:cb p q=0
 ·rw[gy h]
  conv=>whnf
  exact⟨ac h.symm,rfl⟩
 ·rw[eX rfl h]
  conv=>whnf
  exact⟨rfl,rfl⟩
theorem KZ (p:an) (q:aG) (hp:iO p) (hq:pN q):ab Tryz.prog 29 [.agg (aR p), .agg (df q)] (fun u=>u= .tup [.int .i64 (if cb p q=0 then(oX p q:Int) else 0), .int .i64 (cb p q)]):=by
 refine ab.intro ae ag Tryz.func29 rfl (by decide) ?_;(conv=>whnf)
 refine al rfl ?_
 conv=>whnf
 refine al rfl ?_
 conv=>whnf
 refine am.of_pure (n:=5) (pD p q hp hq) (by rfl) ?_
 rintro _ rfl
 by_cases h:cb p q=0
 ·rw[gy h,if_pos h,h]
  conv=>whnf
  refine fI ?_
  conv=>whnf
  exact⟨rfl,rfl⟩
 ·rw[eX rfl h,if_neg h]
  conv=>whnf
  refine cC h ?_
  conv=>whnf
  exact⟨rfl,rfl⟩
def sv:List ez->ez->Int
 |[],_=>-1
 |a::l,g=>if a=g then 0 else if sv l g<0 then -1 else sv l g+1
theorem xf {g:ez}:∀{l:List ez},g∉l->sv l g=-1
 |[],_=>rfl
 |a::l,h=>by
  rw[List.mem_cons,not_or] at h
  rw[sv,if_neg (fun e=>h.1 e.symm),xf h.2,if_pos (by omega)]
theorem Fl {g:ez}:∀{l:List ez} {k:Nat},k<l.length->g∉l.take k->l.getD k aC=g->sv l g=(k:Int)
 |[],k,h,_,_=>by simp at h
 |a::l,0,_,_,h=>by rw[sv,if_pos (show a=g from h)];rfl
 |a::l,k+1,h,h1,h2=>by
  rw[List.take_succ_cons,List.mem_cons,not_or] at h1
  have:=Fl (l:=l) (k:=k) (by simpa using h) h1.2 h2
  rw[sv,if_neg (fun e=>h1.1 e.symm),this,if_neg (by omega)]
  omega
theorem Ay (g:ez):∀l:List ez,-1<=sv l g/\sv l g<l.length
 |[]=>by simp[sv]
 |a::l=>by
  have:=Ay g l
  rw[sv]
  simp only[List.length_cons]
  split
  ·omega
  ·split<;>omega
theorem Az {g:ez}:∀{l:List ez},g∈l->0<=sv l g/\l.getD (sv l g).toNat aC=g
 |a::l,h=>by
  rw[sv]
  by_cases e:a=g
  ·rw[if_pos e];exact⟨by omega,e⟩
  ·rw[if_neg e]
   obtain⟨h1,h2⟩:=Az (l:=l) (by rcases List.mem_cons.1 h with h|h;exact absurd h.symm e;exact h)
   rw[if_neg (by omega)]
   refine⟨by omega,?_⟩
   rw[show(sv l g+1).toNat=(sv l g).toNat+1 by omega]
   exact h2
theorem y6 {acc:List ez} {g:ez} (h:acc.Nodup):(iR acc g).Nodup:=by
 unfold iR
 split
 ·exact h
 ·rename_i hm
  rw[List.nodup_append]
  exact⟨h,by simp,fun a ha b hb e=>by rw[List.mem_singleton] at hb;subst hb;subst e;exact hm ha⟩
theorem pE:∀(gs acc:List ez),acc.Nodup->(gs.foldl iR acc).Nodup
 |[],_,h=>h
 |g::gs,acc,h=>pE gs _ (y6 h)
theorem y7 (rs:List bo):(ax rs).Nodup:=pE _ _ (by simp)
theorem Fm {acc:List ez} {g x:ez} (h:x∈acc):x∈iR acc g:=by
 unfold iR
 split
 ·exact h
 ·exact List.mem_append_left _ h
theorem Cs (acc:List ez) (g:ez):g∈iR acc g:=by
 unfold iR
 split
 ·assumption
 ·exact List.mem_append_right _ (List.mem_singleton.2 rfl)
theorem tu:∀(gs acc:List ez) (x:ez),x∈acc\/x∈gs->x∈gs.foldl iR acc
 |[],_,x,h=>by rcases h with h|h;exact h;cases h
 |g::gs,acc,x,h=>by
  rw[List.foldl_cons]
  refine tu gs _ x ?_
  rcases h with h|h
  ·exact .inl (Fm h)
  ·rcases List.mem_cons.1 h with rfl|h
   ·exact .inl (Cs acc x)
   ·exact .inr h
theorem xg {rs:List bo} {j:Nat} (hj:j<rs.length) {g:ez} (h:g∈(rs.getD j ap).guards):g∈ax rs:=by
 refine tu _ _ g (.inr (List.mem_flatMap.2 ⟨rs.getD j ap,aB _ hj,h⟩))
theorem Fn {T:List ez} (hn:T.Nodup) {g:ez} (hg:g∈T) {sch:List Int} (hs:da T.length sch) {j:Nat} (hj:j<=sch.length):sv T g∈sch.take j↔∃i,i<j/\T.getD (sch.getD i 0).toNat aC=g:=by
 obtain⟨h0,h1⟩:=Az hg
 have hr:=Ay g T
 constructor
 ·intro h
  obtain⟨i,hi,e⟩:=List.mem_take_iff_getElem.1 h
  refine⟨i,by omega,?_⟩
  rw[av 0 (by omega),e]
  exact h1
 ·rintro⟨i,hi,e⟩
  have hb:=(hs i (by omega)).1
  have e2:sch.getD i 0=sv T g:=by
   have a:(sch.getD i 0).toNat<T.length:=by omega
   have b:(sv T g).toNat<T.length:=by omega
   rw[av aC a] at e
   rw[av aC b] at h1
   have:=(List.getElem_inj hn).1 (e.trans h1.symm)
   omega
  exact List.mem_take_iff_getElem.2 ⟨i,by omega,by rw[<-e2,av 0 (by omega)]⟩
theorem Ct (l:List ez) (g:ez) (hl:l.length<=4503599627370496):ab Tryz.prog 271 [.sl aC b8 l, .agg (b8 g)] (fun u=>u= .int .i64 (sv l g)):=by
 refine ab.intro ae ag Tryz.func271 rfl (by decide) ?_;(conv=>whnf)
 refine al rfl ?_
 conv=>whnf
 refine aQ.loopF ae ag (fun k:Nat=>k<=l.length/\g∉l.take k) (fun k=>[(8, .int .i64 (k:Int))]) (fun _=>[]) (fun k=>l.length-k) 0 ⟨by omega,by simp⟩ ?_;conv=>whnf
 refine⟨sI,?_⟩
 rintro k ⟨hk,ha⟩
 conv=>whnf
 repeat' ((first|refine nI ?_|refine aI ?_|refine fb trivial (by omega) ?_|refine fv trivial (by omega) ?_|refine dI ?_|refine dR ?_|refine dP ?_|refine al rfl ?_|refine pI _ rfl ?_|refine aw _ rfl ?_|refine tI ?_|refine fI ?_|refine ah (fun _=>?_) (fun _=>?_))<;>conv=>whnf)
 ·rename_i h1 h2
  rw[tN] at h2
  have h2:g=l.getD k aC:=iu.1 h2
  refine⟨ac ?_,rfl⟩
  rw[Fl (by omega) ha h2.symm]
 ·rename_i h1 h2
  rw[tN] at h2
  refine⟨k+1,sI,⟨by omega,?_⟩,by dsimp only;omega⟩
  rw[ba aC (by omega),List.mem_append,List.mem_singleton,not_or]
  exact⟨ha,fun e=>h2 (iu.2 e)⟩
 ·obtain rfl:k=l.length:=by omega
  rw[List.take_length] at ha
  exact⟨ac (xf ha).symm,rfl⟩
theorem iE (p:an) (q:aG):ab Tryz.prog 108 [.pd (dQ p q)] (fun u=>u= .bool (decide (jC p))):=by
 refine ab.intro ae ag Tryz.func108 rfl (by decide) ?_;(conv=>whnf)
 refine ah ?_ ?_<;>(intro h;conv=>whnf)
 ·exact⟨aH (.inl h),rfl⟩
 ·refine ah ?_ ?_<;>(intro h2;conv=>whnf)
  ·exact⟨aH (.inr h2),rfl⟩
  ·exact⟨au (fun hh=>by rcases hh with hh|hh;exact h hh;exact h2 hh),rfl⟩
theorem pc (p:an) (q:aG) (l:List Int) (hl:l.length<=140737488355328):ab Tryz.prog 85 [.pd (dQ p q), .sl 0 ao l] (fun u=>u= .bool (decide (da (ax p.rules).length l))):=by
 refine ab.intro ae ag Tryz.func85 rfl (by decide) ?_;(conv=>whnf)
 refine aQ.loopF ae ag (fun k:Nat=>k<=l.length/\∀i,i<k->(0<=l.getD i 0/\l.getD i 0<(ax p.rules).length)/\l.getD i 0∉l.take i) (fun k=>[(9, .int .i64 (k:Int))]) (fun _=>[]) (fun k=>l.length-k) 0 ⟨by omega,fun i hi=>by omega⟩ ?_;conv=>whnf
 refine⟨sI,?_⟩
 rintro k ⟨hk,ha⟩
 conv=>whnf
 refine ah ?_ ?_<;>(intro h1;conv=>whnf)
 ·have hlt:k<l.length:=by omega
  refine nI ?_
  rw[tN]
  conv=>whnf
  refine ah ?_ ?_<;>(intro h2;conv=>whnf)
  ·exact⟨au (fun h=>by have:=(h k hlt).1.1;omega),rfl⟩
  refine ah ?_ ?_<;>(intro h3;conv=>whnf)
  ·exact⟨au (fun h=>by have:=(h k hlt).1.2;omega),rfl⟩
  refine nI ?_
  rw[tN]
  conv=>whnf
  refine dC (be (l.take k) (l.getD k 0) (by simp;omega)) (fun _=>?_) (fun _=>?_)<;>(conv=>whnf)
  ·rename_i h4
   exact⟨au (fun h=>(h k hlt).2 h4),rfl⟩
  ·rename_i h4
   repeat' ((first|refine nI ?_|refine aI ?_|refine tI ?_|refine fI ?_|fail);conv=>whnf)
   refine⟨k+1,sI,⟨by omega,fun i hi=>?_⟩,by dsimp only;omega⟩
   by_cases e:i=k
   ·subst e;exact⟨⟨by omega,by omega⟩,h4⟩
   ·exact ha i (by omega)
 ·exact⟨aH (fun i hi=>ha i (by omega)),rfl⟩
def G8 (p:an) (number m:Nat):List Int:=List.replicate (p.rules.length-m) 0++(x5 p number).drop (p.rules.length-m)
theorem Fo (p:an) (number:Nat):G8 p number 0=List.replicate p.rules.length 0:=by
 unfold G8
 rw[Nat.sub_zero,List.drop_of_length_le (by rw[nA];omega),List.append_nil]
theorem Ip (p:an) (number:Nat):G8 p number p.rules.length=x5 p number:=by
 unfold G8
 rw[Nat.sub_self]
 simp
theorem Iq (p:an) {number m:Nat} (h:m<=p.rules.length):(G8 p number m).length=p.rules.length:=by
 unfold G8
 rw[List.length_append,List.length_replicate,List.length_drop,nA]
 omega
theorem K2 (p:an) {number m:Nat} (h:m<p.rules.length):(G8 p number m).set (p.rules.length-1-m) (xZ p.rules number (p.rules.length-1-m):Int)=G8 p number (m+1):=by
 unfold G8
 have e1:p.rules.length-m=(p.rules.length-1-m)+1:=by omega
 have e2:p.rules.length-(m+1)=p.rules.length-1-m:=by omega
 have e3:(x5 p number).drop (p.rules.length-1-m)=(xZ p.rules number (p.rules.length-1-m):Int)::(x5 p number).drop (p.rules.length-1-m+1):=by
  rw[List.drop_eq_getElem_cons (by rw[nA];omega)]
  congr 1
  rw[<-nB (by omega),av 0 (by rw[nA];omega)]
 rw[e1,e2,e3,List.replicate_succ',List.append_assoc,List.set_append_right _ _ (by simp)]
 simp
theorem Ir (p:an) (q:aG) (hv:aA p=0) (number:Nat) (hn:number<=1000000):ab Tryz.prog 199 [.pd (dQ p q), .int .i64 (number:Int)] (fun u=>u=if q.kind=1 then .nilsl else .sl 0 ao (x5 p number)):=by
 have hl:=(aL hv).len
 refine ab.intro ae ag Tryz.func199 rfl (by decide) ?_;(conv=>whnf)
 refine ah ?_ ?_<;>(intro hk;conv=>whnf)
 ·exact⟨by rw[if_pos hk];rfl,rfl⟩
 rw[if_neg hk]
 refine Dw 0 ao 0 rfl (by dsimp only;omega) ?_
 rw[tN]
 conv=>whnf
 refine aI ?_
 conv=>whnf
 have hch:∀m,Ao p.rules number m<=number:=by
  intro m
  induction m with
  |zero=>exact Nat.le_refl _
  |succ m ih=>rw[Ao];exact Nat.le_trans (Nat.div_le_self _ _) ih
 refine aQ.loopF ae ag (fun m:Nat=>m<=p.rules.length) (fun m=>[(6, .int .i64 ((p.rules.length:Int)-1-(m:Int))),(1, .int .i64 (Ao p.rules number m:Int))]) (fun m=>[(20,b7 (G8 p number m))]) (fun m=>p.rules.length-m) 0 (Nat.zero_le _) ?_;conv=>whnf
 refine⟨by rw[Fo];exact sI,?_⟩
 rintro m hm
 conv=>whnf
 refine ah ?_ ?_<;>(intro h1;conv=>whnf)
 ·have hlt:m<p.rules.length:=by omega
  have ei:((p.rules.length:Int)-1-(m:Int)).toNat=p.rules.length-1-m:=by omega
  refine nI ?_
  rw[ei]
  conv=>whnf
  have hg:=fq hv (p.rules.length-1-m) (by omega)
  have hc:=hch m
  have hup:=K2 p (number:=number) hlt
  have ed:xZ p.rules number (p.rules.length-1-m)=Ao p.rules number m % (1+(p.rules.getD (p.rules.length-1-m) ap).guards.length):=by unfold xZ;rw[show p.rules.length-1-(p.rules.length-1-m)=m by omega]
  have eq:Ao p.rules number (m+1)=Ao p.rules number m / (1+(p.rules.getD (p.rules.length-1-m) ap).guards.length):=rfl
  have hlen:=Iq p (number:=number) (m:=m) (by omega)
  generalize (p.rules.getD (p.rules.length-1-m) ap).guards.length=g at hg ed eq
  have e1g:(1+(g:Int))=((1+g:Nat):Int):=by push_cast;rfl
  have et:((Ao p.rules number m:Nat):Int).tdiv (1+(g:Int))=((Ao p.rules number (m+1):Nat):Int):=by rw[e1g,eq,Int.ofNat_tdiv]
  have er:((Ao p.rules number m:Nat):Int).tmod (1+(g:Int))=((xZ p.rules number (p.rules.length-1-m):Nat):Int):=by rw[e1g,ed,Int.ofNat_tmod]
  have hc1:=hch (m+1)
  refine aI ?_
  conv=>whnf
  first|refine dI ?_|refine wG (by decide+kernel) ?_
  conv=>whnf
  repeat' ((first|refine nI ?_|refine aI ?_|refine tI ?_|refine fI ?_|fail);conv=>whnf)
  rw[et]
  refine Mc (by omega) (by omega) ?_
  conv=>whnf
  repeat' ((first|refine nI ?_|refine aI ?_|refine tI ?_|refine fI ?_|fail);conv=>whnf)
  rw[er,ei]
  refine aw ((xZ p.rules number (p.rules.length-1-m):Nat):Int) rfl ?_
  conv=>whnf
  repeat' ((first|refine nI ?_|refine aI ?_|refine tI ?_|refine fI ?_|fail);conv=>whnf)
  refine⟨m+1,?_,by omega,by dsimp only;omega⟩
  dsimp only
  rw[<-hup]
  exact sI
 ·obtain rfl:m=p.rules.length:=by omega
  rw[Ip]
  exact⟨rfl,rfl⟩
theorem xh (p:an) (q:aG) (hv:aA p=0) (sch:List Int) (hs:da (ax p.rules).length sch) (r j:Nat) (hr:r<p.rules.length) (hj:j<=sch.length):ab Tryz.prog 210 [.pd (dQ p q), .int .i64 (r:Int), .sl 0 ao sch, .int .i64 (j:Int)] (fun u=>u= .bool (decide (yY (ax p.rules) sch j (p.rules.getD r ap)))):=by
 have hT:=(aL hv).thr
 have hsl:=c5 hs
 have hg2:=fq hv r hr
 have hin:∀g∈(p.rules.getD r ap).guards,(sv (ax p.rules) g∈sch.take j↔∃i,i<j/\(ax p.rules).getD (sch.getD i 0).toNat aC=g):=fun g hg=>Fn (y7 _) (xg hr hg) hs hj
 refine ab.intro ae ag Tryz.func210 rfl (by decide) ?_;(conv=>whnf)
 refine nI ?_
 rw[tN]
 generalize p.rules.getD r ap=x at hin hg2
 conv=>whnf
 refine aQ.loopF ae ag (fun k:Nat=>k<=x.guards.length/\∀i,i<k->∃m,m<j/\(ax p.rules).getD (sch.getD m 0).toNat aC=x.guards.getD i aC) (fun k=>[(21, .int .i64 (k:Int))]) (fun _=>[]) (fun k=>x.guards.length-k) 0 ⟨by omega,fun i hi=>by omega⟩ ?_;conv=>whnf
 refine⟨sI,?_⟩
 rintro k ⟨hk,ha⟩
 conv=>whnf
 refine ah ?_ ?_<;>(intro h1;conv=>whnf)
 ·have hlt:k<x.guards.length:=by omega
  refine nI ?_
  rw[tN]
  have hgm:=hin _ (aB (l:=x.guards) aC hlt)
  conv=>whnf
  refine dI ?_
  conv=>whnf
  refine nI ?_
  rw[tN]
  conv=>whnf
  (refine oC (Ct (ax p.rules) (x.guards.getD k aC) (by omega)) ?_;conv=>whnf)
  refine dD (be (sch.take j) (sv (ax p.rules) (x.guards.getD k aC)) (by simp;omega)) (fun _=>?_) (fun _=>?_)<;>(conv=>whnf)
  ·rename_i h2
   repeat' ((first|refine nI ?_|refine aI ?_|refine tI ?_|refine fI ?_|fail);conv=>whnf)
   refine⟨k+1,sI,⟨by omega,fun i hi=>?_⟩,by dsimp only;omega⟩
   by_cases e:i=k
   ·subst e;exact hgm.1 h2
   ·exact ha i (by omega)
  ·rename_i h2
   exact⟨au (fun h=>h2 (hgm.2 (h _ (aB (l:=x.guards) aC hlt)))),rfl⟩
 ·refine⟨aH (fun g hg=>?_),rfl⟩
  obtain⟨i,hi,e⟩:=List.getElem_of_mem hg
  have:=ha i (by omega)
  rwa [av aC hi,e] at this
def tv (l:List Vb):cp:=.row 252 dU fp l
def y8 (p:an) (q:aG) (k:Nat):List Vb:=[⟨0,0,0⟩,⟨1,0,0⟩,⟨2,0,0⟩]++((bw p q).take k).map (fun x=>⟨3,0,x⟩)
def uQ (p:an) (q:aG) (k:Nat):List Vb:=y8 p q (bw p q).length++(p.initial.take k).map (fun x=>(⟨4,0,x⟩:Vb))
def It (p:an) (q:aG):List Vb:=if jC p then uQ p q p.initial.length else y8 p q (bw p q).length
def fK (p:an) (q:aG) (sch:List Int) (j:Nat):List Vb:=It p q++(List.range j).flatMap fun j=>bN p sch j p.rules.length
theorem Fp (p:an) (q:aG) {k:Nat} (h:k<(bw p q).length):y8 p q (k+1)=y8 p q k++[⟨3,0,(bw p q).getD k 0⟩]:=by
 unfold y8;rw[ba 0 h,List.map_append,List.append_assoc];rfl
theorem Fq (p:an) (q:aG) {k:Nat} (h:k<p.initial.length):uQ p q (k+1)=uQ p q k++[⟨4,0,p.initial.getD k 0⟩]:=by
 unfold uQ;rw[ba 0 h,List.map_append,List.append_assoc];rfl
theorem K3 (p:an) (q:aG):It p q=[⟨0,0,0⟩,⟨1,0,0⟩,⟨2,0,0⟩]++pP p q:=by
 unfold It uQ y8 pP
 split
 ·rw[List.take_length,List.take_length,List.append_assoc]
 ·rw[List.take_length,List.append_nil]
theorem p9 (p:an) (q:aG) (sch:List Int):fK p q sch (sch.length+1)=ak p q sch:=by
 unfold fK ak;rw[K3]
theorem uR (p:an) (q:aG) (sch:List Int) (j:Nat):fK p q sch (j+1)=fK p q sch j++bN p sch j p.rules.length:=by
 unfold fK;rw[List.range_succ,List.flatMap_append,List.append_assoc];simp
theorem l7 (p:an) (sch:List Int) (j:Nat) (l:List Vb):l++bN p sch j 0=l:=by simp[bN]
theorem qa {p:an} {q:aG} (hv:aP p q=0) (k:Nat):(y8 p q k).length<=9:=by
 have h:=aL (aF hv).vld
 have a:=bv (aF hv).start
 have b:=bv h.ini.1
 have c:=h.len
 have d:(bw p q).length<=6:=by unfold bw;split<;>omega
 unfold y8
 simp only[List.length_append,List.length_cons,List.length_nil,List.length_map,List.length_take]
 omega
theorem uS {p:an} {q:aG} (hv:aP p q=0) (k:Nat):(uQ p q k).length<=15:=by
 have h:=aL (aF hv).vld
 have a:=qa hv (bw p q).length
 have b:=bv h.ini.1
 have c:=h.len
 unfold uQ
 simp only[List.length_append,List.length_map,List.length_take]
 omega
theorem qb {p:an} {q:aG} (hv:aP p q=0) {sch:List Int} (hs:da (ax p.rules).length sch) (j:Nat) (hj:j<=sch.length+1):(fK p q sch j).length<=79:=by
 have w:=aL (aF hv).vld
 have a:(It p q).length<=15:=by
  unfold It
  split
  ·exact uS hv _
  ·have:=qa hv (bw p q).length;omega
 have b:=rn p sch p.rules.length j
 have c:=c5 hs
 have d:=w.thr
 have e:=w.len
 have f:2*p.rules.length*j<=16*4:=Nat.mul_le_mul (by omega) (by omega)
 unfold fK
 rw[List.length_append]
 omega
theorem rD (p:an) (q:aG) (hv:aP p q=0) (sch:List Int) (hs:da (ax p.rules).length sch):ab Tryz.prog 115 [.pd (dQ p q), .sl 0 ao sch] (fun u=>u= .sl dU fp (ak p q sch)):=by
 have w:=aL (aF hv).vld
 have hle:=w.len
 have hT:=w.thr
 have hsl:=c5 hs
 have hst:(bw p q).length<=6:=by
  have a:=bv (aF hv).start
  have b:=bv w.ini.1
  unfold bw;split<;>omega
 have hil:p.initial.length<=6:=by have b:=bv w.ini.1;omega
 refine ab.intro ae ag Tryz.func115 rfl (by decide) ?_;(conv=>whnf)
 refine cf dU fp [⟨0,0,0⟩,⟨1,0,0⟩,⟨2,0,0⟩] rfl ?_
 conv=>whnf
 refine aQ.loopF ae ag (fun k:Nat=>k<=(bw p q).length) (fun k=>[(15, .top),(21, .int .i64 (k:Int)),(5, .row 1000 (y8 p q k).length 3)]) (fun k=>[(1000,tv (y8 p q k))]) (fun k=>(bw p q).length-k) 0 (Nat.zero_le _) ?_;conv=>whnf
 refine⟨bn.by_ [(1000, .old 15)] _ 400 rfl (aa) (aa),?_⟩
 rintro k hk
 conv=>whnf
 refine ah ?_ ?_<;>(intro h1;conv=>whnf)
 ·have hlt:k<(bw p q).length:=by omega
  have hal:=qa hv k
  refine nI ?_
  rw[tN]
  conv=>whnf
  refine cf dU fp [⟨3,0,(bw p q).getD k 0⟩] rfl ?_
  conv=>whnf
  refine cz [⟨3,0,(bw p q).getD k 0⟩] rfl lI ?_
  conv=>whnf
  repeat' ((first|refine nI ?_|refine aI ?_|refine tI ?_|refine fI ?_|fail);conv=>whnf)
  refine⟨k+1,?_,by omega,by dsimp only;omega⟩
  dsimp only
  rw[Fp p q hlt]
  exact bn.by_ [(1000, .old 29)] _ 400 rfl (aa) (aa)
 obtain rfl:k=(bw p q).length:=by omega
 refine dC (iE p q) (fun _=>?_) (fun _=>?_)<;>(conv=>whnf)
 ·rename_i hw
  have hC:fK p q sch 0=uQ p q p.initial.length:=by unfold fK It;rw[if_pos hw];simp
  refine aQ.loopF ae ag (fun k:Nat=>k<=p.initial.length) (fun k=>[(39, .int .i64 (k:Int)),(5, .row 1000 (uQ p q k).length 3)]) (fun k=>[(1000,tv (uQ p q k))]) (fun k=>p.initial.length-k) 0 (Nat.zero_le _) ?_;conv=>whnf
  refine⟨by rw[show uQ p q 0=y8 p q (bw p q).length by unfold uQ;simp];exact sI,?_⟩
  rintro k hk2
  conv=>whnf
  refine ah ?_ ?_<;>(intro h3;conv=>whnf)
  ·have hlt:k<p.initial.length:=by omega
   have hbl:=uS hv k
   refine nI ?_
   rw[tN]
   conv=>whnf
   refine cf dU fp [⟨4,0,p.initial.getD k 0⟩] rfl ?_
   conv=>whnf
   refine cz [⟨4,0,p.initial.getD k 0⟩] rfl lI ?_
   conv=>whnf
   repeat' ((first|refine nI ?_|refine aI ?_|refine tI ?_|refine fI ?_|fail);conv=>whnf)
   refine⟨k+1,?_,by omega,by dsimp only;omega⟩
   dsimp only
   rw[Fq p q hlt]
   exact bn.by_ [(1000, .old 47)] _ 400 rfl (aa) (aa)
  obtain rfl:k=p.initial.length:=by omega
  refine aI ?_
  conv=>whnf
  refine aQ.loopF ae ag (fun j:Nat=>j<=sch.length+1) (fun j=>[(52, .int .i64 (j:Int)),(5, .row 1000 (fK p q sch j).length 3)]) (fun j=>[(1000,tv (fK p q sch j))]) (fun j=>sch.length+1-j) 0 (Nat.zero_le _) ?_;conv=>whnf
  refine⟨by rw[hC];exact sI,?_⟩
  rintro j hj
  conv=>whnf
  refine ah ?_ ?_<;>(intro h1;conv=>whnf)
  ·have hDl:=qb hv hs j hj
   refine aQ.loopF ae ag (fun r:Nat=>r<=p.rules.length) (fun r=>[(61, .int .i64 (r:Int)),(5, .row 1000 (fK p q sch j++bN p sch j r).length 3)]) (fun r=>[(1000,tv (fK p q sch j++bN p sch j r))]) (fun r=>p.rules.length-r) 0 (Nat.zero_le _) ?_;conv=>whnf
   refine⟨by rw[l7];exact sI,?_⟩
   rintro r hr
   conv=>whnf
   refine ah ?_ ?_<;>(intro h2;conv=>whnf)
   ·have hrl:r<p.rules.length:=by omega
    have hsl:=jD p sch j r
    have hll:(fK p q sch j++bN p sch j r).length<=1000:=by rw[List.length_append];omega
    refine dC (xh p q (aF hv).vld sch hs r j hrl (by omega)) (fun _=>?_) (fun _=>?_)<;>(conv=>whnf)
    ·rename_i ha
     refine cf dU fp [⟨5,j,r⟩] rfl ?_
     conv=>whnf
     refine cz [⟨5,j,r⟩] rfl lI ?_
     conv=>whnf
     refine dC (iE p q) (fun _=>?_) (fun _=>?_)<;>(conv=>whnf)
     ·rename_i hw
      have e:fK p q sch j++bN p sch j (r+1)=fK p q sch j++bN p sch j r++[⟨5,j,r⟩]++[⟨6,j,r⟩]:=by
       rw[dB,rm,if_pos ha,if_pos hw,List.append_assoc,List.append_assoc];rfl
      refine cf dU fp [⟨6,j,r⟩] rfl ?_
      conv=>whnf
      refine cz [⟨6,j,r⟩] rfl (by simp only[List.length_append,List.length_cons,List.length_nil] at hll⊢;omega) ?_
      conv=>whnf
      repeat' ((first|refine nI ?_|refine aI ?_|refine tI ?_|refine fI ?_|fail);conv=>whnf)
      refine⟨r+1,?_,by omega,by dsimp only;omega⟩
      dsimp only
      rw[e]
      exact bn.by_ [(1000, .old 83)] _ 400 rfl (aa) (aa)
     ·rename_i hw
      have e:fK p q sch j++bN p sch j (r+1)=fK p q sch j++bN p sch j r++[⟨5,j,r⟩]:=by
       rw[dB,rm,if_pos ha,if_neg hw,List.append_assoc]
      repeat' ((first|refine nI ?_|refine aI ?_|refine tI ?_|refine fI ?_|fail);conv=>whnf)
      refine⟨r+1,?_,by omega,by dsimp only;omega⟩
      dsimp only
      rw[e]
      exact bn.by_ [(1000, .old 75)] _ 400 rfl (aa) (aa)
    ·rename_i ha
     have e:fK p q sch j++bN p sch j (r+1)=fK p q sch j++bN p sch j r:=by
      rw[dB,rm,if_neg ha,List.append_nil]
     repeat' ((first|refine nI ?_|refine aI ?_|refine tI ?_|refine fI ?_|fail);conv=>whnf)
     refine⟨r+1,?_,by omega,by dsimp only;omega⟩
     dsimp only
     rw[e]
     exact sI
   ·obtain rfl:r=p.rules.length:=by omega
    have e:=uR p q sch j
    repeat' ((first|refine nI ?_|refine aI ?_|refine tI ?_|refine fI ?_|fail);conv=>whnf)
    refine⟨j+1,?_,by omega,by dsimp only;omega⟩
    dsimp only
    rw[e]
    exact sI
  ·obtain rfl:j=sch.length+1:=by omega
   rw[p9]
   exact⟨rfl,rfl⟩
 ·rename_i hw
  have hC:fK p q sch 0=y8 p q (bw p q).length:=by unfold fK It;rw[if_neg hw];simp
  refine aI ?_
  conv=>whnf
  refine aQ.loopF ae ag (fun j:Nat=>j<=sch.length+1) (fun j=>[(52, .int .i64 (j:Int)),(5, .row 1000 (fK p q sch j).length 3)]) (fun j=>[(1000,tv (fK p q sch j))]) (fun j=>sch.length+1-j) 0 (Nat.zero_le _) ?_;conv=>whnf
  refine⟨by rw[hC];exact sI,?_⟩
  rintro j hj
  conv=>whnf
  refine ah ?_ ?_<;>(intro h1;conv=>whnf)
  ·have hDl:=qb hv hs j hj
   refine aQ.loopF ae ag (fun r:Nat=>r<=p.rules.length) (fun r=>[(61, .int .i64 (r:Int)),(5, .row 1000 (fK p q sch j++bN p sch j r).length 3)]) (fun r=>[(1000,tv (fK p q sch j++bN p sch j r))]) (fun r=>p.rules.length-r) 0 (Nat.zero_le _) ?_;conv=>whnf
   refine⟨by rw[l7];exact sI,?_⟩
   rintro r hr
   conv=>whnf
   refine ah ?_ ?_<;>(intro h2;conv=>whnf)
   ·have hrl:r<p.rules.length:=by omega
    have hsl:=jD p sch j r
    have hll:(fK p q sch j++bN p sch j r).length<=1000:=by rw[List.length_append];omega
    refine dC (xh p q (aF hv).vld sch hs r j hrl (by omega)) (fun _=>?_) (fun _=>?_)<;>(conv=>whnf)
    ·rename_i ha
     refine cf dU fp [⟨5,j,r⟩] rfl ?_
     conv=>whnf
     refine cz [⟨5,j,r⟩] rfl lI ?_
     conv=>whnf
     refine dC (iE p q) (fun _=>?_) (fun _=>?_)<;>(conv=>whnf)
     ·rename_i hw
      have e:fK p q sch j++bN p sch j (r+1)=fK p q sch j++bN p sch j r++[⟨5,j,r⟩]++[⟨6,j,r⟩]:=by
       rw[dB,rm,if_pos ha,if_pos hw,List.append_assoc,List.append_assoc];rfl
      refine cf dU fp [⟨6,j,r⟩] rfl ?_
      conv=>whnf
      refine cz [⟨6,j,r⟩] rfl (by simp only[List.length_append,List.length_cons,List.length_nil] at hll⊢;omega) ?_
      conv=>whnf
      repeat' ((first|refine nI ?_|refine aI ?_|refine tI ?_|refine fI ?_|fail);conv=>whnf)
      refine⟨r+1,?_,by omega,by dsimp only;omega⟩
      dsimp only
      rw[e]
      exact bn.by_ [(1000, .old 83)] _ 400 rfl (aa) (aa)
     ·rename_i hw
      have e:fK p q sch j++bN p sch j (r+1)=fK p q sch j++bN p sch j r++[⟨5,j,r⟩]:=by
       rw[dB,rm,if_pos ha,if_neg hw,List.append_assoc]
      repeat' ((first|refine nI ?_|refine aI ?_|refine tI ?_|refine fI ?_|fail);conv=>whnf)
      refine⟨r+1,?_,by omega,by dsimp only;omega⟩
      dsimp only
      rw[e]
      exact bn.by_ [(1000, .old 75)] _ 400 rfl (aa) (aa)
    ·rename_i ha
     have e:fK p q sch j++bN p sch j (r+1)=fK p q sch j++bN p sch j r:=by
      rw[dB,rm,if_neg ha,List.append_nil]
     repeat' ((first|refine nI ?_|refine aI ?_|refine tI ?_|refine fI ?_|fail);conv=>whnf)
     refine⟨r+1,?_,by omega,by dsimp only;omega⟩
     dsimp only
     rw[e]
     exact sI
   ·obtain rfl:r=p.rules.length:=by omega
    have e:=uR p q sch j
    repeat' ((first|refine nI ?_|refine aI ?_|refine tI ?_|refine fI ?_|fail);conv=>whnf)
    refine⟨j+1,?_,by omega,by dsimp only;omega⟩
    dsimp only
    rw[e]
    exact sI
  ·obtain rfl:j=sch.length+1:=by omega
   rw[p9]
   exact⟨rfl,rfl⟩
def Cu (p:an) (q:aG) (sch:List Int):AV:=if cb p q≠0 then .tup [.nilsl, .int .i64 (cb p q)] else if¬da (ax p.rules).length sch then .tup [.nilsl, .int .i64 1] else .tup [.sl dU fp (ak p q sch), .int .i64 0]
theorem db {p:an} {q:aG} (h:cb p q=0):aP p q=0:=by
 refine Classical.byContradiction fun hh=>?_
 rw[cb,if_pos hh] at h
 exact hh h
theorem qc {p:an} {q:aG} (h:cb p q=0):dZ p/\ji p q:=by
 have h1:=db h
 rw[cb,if_neg (by omega)] at h
 refine Classical.byContradiction fun hh=>?_
 rw[if_pos hh] at h
 omega
theorem Fr {p:an} {q:aG} (h:cb p q=0):oX p q<=64:=by
 have h1:=db h
 have h2:=qc h
 rw[cb,if_neg (by omega),if_neg (fun hh=>hh h2)] at h
 refine Classical.byContradiction fun hh=>?_
 rw[if_pos (by omega)] at h
 omega
theorem y9 (p:an) (q:aG) (hp:iO p) (hq:pN q) (sch:List Int) (hl:sch.length<=140737488355328):ab Tryz.prog 47 [.agg (aR p), .agg (df q), .sl 0 ao sch] (fun u=>u=Cu p q sch):=by
 have he:=Cu.eq_1 p q sch
 refine ab.intro ae ag Tryz.func47 rfl (by decide) ?_;(conv=>whnf)
 refine al rfl ?_
 conv=>whnf
 refine al rfl ?_
 conv=>whnf
 refine am.of_pure (n:=5) (pD p q hp hq) (by rfl) ?_
 rintro _ rfl
 by_cases h:cb p q=0
 ·rw[if_neg (by omega)] at he
  rw[gy h]
  conv=>whnf
  refine fI ?_
  conv=>whnf
  refine dC (pc p q sch hl) (fun _=>?_) (fun _=>?_)<;>(conv=>whnf)
  ·rename_i hs
   rw[if_neg (fun hh=>hh hs)] at he
   (refine oP (rD p q (db h) sch hs) ?_;conv=>whnf)
   exact⟨he.symm,rfl⟩
  ·rename_i hs
   rw[if_pos hs] at he
   exact⟨he.symm,rfl⟩
 ·rw[if_pos h] at he
  rw[eX rfl h]
  conv=>whnf
  refine cC h ?_
  conv=>whnf
  exact⟨he.symm,rfl⟩
end Go.Proofs.YtekmminpfhacpaaGreatDoor
