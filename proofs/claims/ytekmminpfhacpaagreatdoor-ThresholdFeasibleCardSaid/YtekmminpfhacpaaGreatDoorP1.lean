import Derived.Test.YtekmminpfhacpaaGreatDoorM5
import Derived.Test.YtekmminpfhacpaaGreatDoorPlR
set_option linter.unusedVariables false
set_option linter.unusedSimpArgs false
namespace Go.Proofs.YtekmminpfhacpaaGreatDoor
section
set_option maxRecDepth 100000
set_option maxHeartbeats 8000000
theorem pr {l:List Int} {n:Int} (h:cE l n=0):qA l n/\Ex l:=by
 unfold cE at h
 by_cases h1:qA l n
 ·rw[if_pos h1] at h
  by_cases h2:Ex l
  ·exact⟨h1,h2⟩
  ·rw[if_neg h2] at h;omega
 ·rw[if_neg h1] at h;omega
theorem KT {l:List Int} {n:Int} (h:cE l n=0):∀k,k<l.length->(k:Int)<=l.getD k 0:=by
 obtain⟨h1,h2⟩:=pr h
 intro k
 induction k with
 |zero=>intro hk;exact(h1 0 hk).1
 |succ k ih=>
  intro hk
  have a:=ih (by omega)
  have b:=h2 (k+1) hk (by omega)
  rw[Nat.add_sub_cancel] at b
  omega
theorem bS {l:List Int} {n:Nat} (h:cE l n=0):l.length<=n:=by
 by_cases h0:l.length=0
 ·omega
 have a:=KT h (l.length-1) (by omega)
 have b:=(pr h).1 (l.length-1) (by omega)
 omega
structure SU (p:ap):Prop where
 name:dq p.name
 top:1<=p.topology/\p.topology<=4/\0<=p.fault/\p.fault<=3
 len:0<p.states.length/\p.states.length<=6/\p.messages.length<=3/\p.values.length<=3/\p.resilience.length<=4/\p.rules.length<=8
 nms:uD (iw p)
 shp:¬((p.topology≠1/\(0<p.messages.length\/0<p.values.length\/0<p.resilience.length\/p.fault≠0))\/(p.topology=1/\0<p.leader.length))
 res:wS p
 ini:cE p.initial p.states.length=0/\0<p.initial.length/\cE p.leader p.states.length=0
 rul:∀i,i<p.rules.length->fM p i (p.rules.getD i au)=0
 thr:(aA p.rules).length<=3
theorem a9 {p:ap} (h:aL p=0):SU p:=by
 unfold aL at h
 by_cases h1:¬dq p.name
 ·rw[if_pos h1] at h;omega
 rw[if_neg h1] at h
 by_cases h2:p.topology<1\/4<p.topology\/p.fault<0\/3<p.fault
 ·rw[if_pos h2] at h;omega
 rw[if_neg h2] at h
 by_cases h3:p.states.length=0
 ·rw[if_pos h3] at h;omega
 rw[if_neg h3] at h
 by_cases h4:6<p.states.length\/3<p.messages.length\/3<p.values.length\/4<p.resilience.length\/8<p.rules.length
 ·rw[if_pos h4] at h;omega
 rw[if_neg h4] at h
 by_cases h5:¬uD (iw p)
 ·rw[if_pos h5] at h;omega
 rw[if_neg h5] at h
 by_cases h6:(p.topology≠1/\(0<p.messages.length\/0<p.values.length\/0<p.resilience.length\/p.fault≠0))\/(p.topology=1/\0<p.leader.length)
 ·rw[if_pos h6] at h;omega
 rw[if_neg h6] at h
 by_cases h7:¬wS p
 ·rw[if_pos h7] at h;omega
 rw[if_neg h7] at h
 have hz:=cq h
 have a1:=hz (if p.initial.length=0 then 1 else 0) (by simp)
 have a2:=hz (lq p) (by simp)
 have a3:=hz (if 3<(aA p.rules).length then 4 else 0) (by simp)
 refine⟨Classical.not_not.1 h1,by omega,by omega,Classical.not_not.1 h5,h6,Classical.not_not.1 h7,⟨hz _ (by simp),?_,hz _ (by simp)⟩,fun i hi=>?_,?_⟩
 ·split at a1<;>omega
 ·exact cq a2 _ (List.mem_map.2 ⟨i,List.mem_range.2 hi,rfl⟩)
 ·split at a3<;>omega
theorem NU {l:List Int} {n:Int} (h:ob l n=0):(l.length:Int)=n:=by
 unfold ob at h
 split at h<;>omega
theorem Bq {p:ap} {i:Nat} {r:bE} (hl:0<p.states.length/\p.states.length<=6/\p.messages.length<=3) (h:fM p i r=0):¬qy r:=by
 obtain⟨h1,h2,h3,_,_,h6⟩:=jm h
 have hn:=h1.1.2
 unfold ov at h3
 unfold kq at h2
 unfold fg at h6
 unfold qy
 have hk:r.kind=1\/r.kind=2\/r.kind=3\/r.kind=4\/r.kind=5:=by omega
 rcases hk with k|k|k|k|k
 ·rw[if_pos k] at h6
  have hz:=cq h6
  have c1:=tD (hz (cF p.messages.length r.guards) (by simp))
  have c2:=bS (hz (cE r.some_ p.states.length) (by simp))
  have c3:=bS (hz (cE r.forall_ p.states.length) (by simp))
  have c4:=bS (hz (cE r.send p.messages.length) (by simp))
  omega
 ·omega
 ·rw[if_neg (by omega),if_neg (by omega),if_pos k] at h6
  have c1:=NU (cq h6 (ob r.response p.states.length) (by simp))
  omega
 ·rw[if_neg (by omega),if_neg (by omega),if_neg (by omega),if_pos k] at h6
  have hz:=cq h6
  have c1:=bS (hz (cE r.left p.states.length) (by simp))
  have c2:=bS (hz (cE r.right p.states.length) (by simp))
  have c3:=bS (hz (cE r.parent p.states.length) (by simp))
  omega
 ·omega
theorem EJ {p:ap} (h:uD (iw p)):¬pl p.states/\¬pl p.messages/\¬pl p.values:=by
 have key:∀s∈iw p,s.size<=12:=by
  intro s hs
  obtain⟨j,hj,e⟩:=List.getElem_of_mem hs
  have:=(h j hj).1.1.2
  rwa [gD,gL hj,Option.getD_some,e] at this
 have go:∀l:List ByteArray,(∀s∈l,s∈iw p)->¬pl l:=by
  rintro l hl ⟨j,hj,hlt⟩
  have:=key _ (hl _ (aH (l:=l) t0 hj))
  omega
 refine⟨go _ fun s hs=>?_,go _ fun s hs=>?_,go _ fun s hs=>?_⟩<;>simp[iw,hs]
theorem gZ {p:ap} (h:aL p=0):¬jZ p:=by
 have v:=a9 h
 have h1:=v.name.1.2
 have h2:=bS v.ini.1
 have h3:=bS v.ini.2.2
 have h4:=v.len
 obtain⟨n1,n2,n3⟩:=EJ v.nms
 have h5:¬∃j,j<p.rules.length/\qy (p.rules.getD j au):=fun⟨j,hj,hb⟩=>Bq ⟨h4.1,h4.2.1,h4.2.2.1⟩ (v.rul j hj) hb
 unfold jZ
 rintro(h|h|h|h|h|h|h|h|h|h|h|h)
 any_goals omega
 all_goals first|exact h5 h|exact n1 h|exact n2 h|exact n3 h
structure SC (p:ap) (q:aJ):Prop where
 vld:aL p=0
 name:dq q.name
 kind:q.kind=1\/q.kind=2
 shp:¬((q.kind=1/\0<q.goal.length)\/(q.kind=2/\(0<q.bad.length\/0<q.adjacent.length)))
 start:cE q.start p.states.length=0
 ini:∀j,j<q.start.length->q.start.getD j 0∈p.initial
 goal:q.kind=2->cE q.goal p.states.length=0/\0<q.goal.length
 bad:q.kind=1->q.bad.length<=3/\y8 p.states.length q.bad=0/\EG p q.adjacent=0/\¬(q.bad.length=0/\q.adjacent.length=0)
theorem bf {p:ap} {q:aJ} (h:bF p q=0):SC p q:=by
 unfold bF at h
 by_cases h1:aL p≠0
 ·rw[if_pos h1] at h;omega
 rw[if_neg h1] at h
 by_cases h2:¬dq q.name
 ·rw[if_pos h2] at h;omega
 rw[if_neg h2] at h
 by_cases h3:q.kind≠1/\q.kind≠2
 ·rw[if_pos h3] at h;omega
 rw[if_neg h3] at h
 by_cases h4:(q.kind=1/\0<q.goal.length)\/(q.kind=2/\(0<q.bad.length\/0<q.adjacent.length))
 ·rw[if_pos h4] at h;omega
 rw[if_neg h4] at h
 by_cases h5:cE q.start p.states.length≠0
 ·rw[if_pos h5] at h;omega
 rw[if_neg h5] at h
 by_cases h6:¬(∀j,j<q.start.length->q.start.getD j 0∈p.initial)
 ·rw[if_pos h6] at h;omega
 rw[if_neg h6] at h
 refine⟨by omega,Classical.not_not.1 h2,by omega,h4,by omega,Classical.not_not.1 h6,fun k=>?_,fun k=>?_⟩
 ·rw[if_pos k] at h
  have hz:=cq h
  have a:=hz (if q.goal.length=0 then 1 else 0) (by simp)
  refine⟨hz _ (by simp),?_⟩
  split at a<;>omega
 ·rw[if_neg (by omega)] at h
  have hz:=cq h
  have a:=hz (if q.bad.length=0/\q.adjacent.length=0 then 1 else 0) (by simp)
  have b:=hz (if 3<q.bad.length then 4 else 0) (by simp)
  refine⟨?_,hz _ (by simp),hz _ (by simp),?_⟩
  ·split at b<;>omega
  ·split at a
   ·omega
   ·assumption
theorem qF {p:ap} {q:aJ} (h:SC p q) (k:q.kind=1) {j:Nat} (hj:j<q.bad.length):cE (q.bad.getD j dv).states p.states.length=0/\0<(q.bad.getD j dv).states.length/\1<=(q.bad.getD j dv).least/\(q.bad.getD j dv).least<=3:=by
 have hz:=cq (h.bad k).2.1
 have hc:=cq (hz (KI p.states.length (q.bad.getD j dv)) (List.mem_map.2 ⟨_,aH _ hj,rfl⟩))
 have a:=hc (if(q.bad.getD j dv).states.length=0\/(q.bad.getD j dv).least<1\/3<(q.bad.getD j dv).least then 1 else 0) (by simp)
 refine⟨hc _ (by simp),?_⟩
 split at a<;>omega
theorem G1 {p:ap} {q:aJ} (h:bF p q=0):¬Bi q:=by
 have v:=bf h
 have h1:=v.name.1.2
 have hs:=(a9 v.vld).len
 have h2:=bS v.start
 have h3:q.goal.length<=6:=by
  rcases v.kind with k|k
  ·have:=v.shp;omega
  ·have:=bS (v.goal k).1;omega
 have h4:q.bad.length<=3/\q.adjacent.length<=2:=by
  rcases v.kind with k|k
  ·refine⟨(v.bad k).1,?_⟩
   have ha:=(v.bad k).2.2.1
   unfold EG at ha
   split at ha
   ·omega
   ·split at ha
    ·omega
    ·split at ha<;>omega
  ·have:=v.shp;omega
 have h5:¬∃j,j<q.bad.length/\60<(q.bad.getD j dv).states.length:=by
  rintro⟨j,hj,hb⟩
  rcases v.kind with k|k
  ·have:=bS (qF v k hj).1;omega
  ·have:=v.shp;omega
 unfold Bi
 rintro(h|h|h|h|h|h)
 any_goals omega
 exact h5 h
structure Vb where
 kind:Int
 seg:Int
 idx:Int
theorem lw {a b:Vb} (h1:a.kind=b.kind) (h2:a.seg=b.seg) (h3:a.idx=b.idx):a=b:=by
 cases a;cases b;cases h1;cases h2;cases h3;rfl
instance decVb:DecidableEq Vb:=fun a b=>
 if h:a.kind=b.kind/\a.seg=b.seg/\a.idx=b.idx then isTrue (lw h.1 h.2.1 h.2.2) else isFalse (fun e=>h (by rw[e];exact⟨rfl,rfl,rfl⟩))
def im:Vb:=⟨0,0,0⟩
def lS (v:Vb):List AV:=[.int .i64 v.kind, .int .i64 v.seg, .int .i64 v.idx]
def cA (p:ap) (q:aJ):List Int:=if 0<q.start.length then q.start else p.initial
def pu (r:bE):Prop:=r.kind=1/\r.src<r.dst/\r.some_.length=0/\r.forall_.length=0
instance (r:bE):Decidable (pu r):=inferInstanceAs (Decidable (_/\_))
def io (p:ap):Prop:=p.topology=1/\p.values.length=0/\∀j,j<p.rules.length->pu (p.rules.getD j au)
instance (p:ap):Decidable (io p):=inferInstanceAs (Decidable (_/\_))
def qG (p:ap) (q:aJ):Prop:=q.kind=2->∀j,j<p.rules.length->(p.rules.getD j au).src∈q.goal->(p.rules.getD j au).dst∈q.goal
instance (p:ap) (q:aJ):Decidable (qG p q):=inferInstanceAs (Decidable (_->_))
def EK (rs:List bE):Nat->Nat
 |0=>1
 |k+1=>EK rs k*(1+(rs.getD k au).guards.length)
def w6 (p:ap) (q:aJ):Nat:=if q.kind=2 then EK p.rules p.rules.length else 1
def dL (p:ap) (q:aJ):Int:=if bF p q≠0 then bF p q else if¬(io p/\qG p q) then 7 else if 64<w6 p q then 4 else 0
theorem G2 {rs:List bE} (h:∀j,j<rs.length->(rs.getD j au).guards.length<=2):∀k,k<=rs.length->EK rs k<=3^k
 |0,_=>by simp[EK]
 |k+1,hk=>by
  have a:=G2 h k (by omega)
  have b:=h k (by omega)
  rw[EK,Nat.pow_succ]
  exact Nat.mul_le_mul a (by omega)
def dM (n:Nat) (l:List Int):Prop:=∀i,i<l.length->(0<=l.getD i 0/\l.getD i 0<n)/\l.getD i 0∉l.take i
instance (n:Nat) (l:List Int):Decidable (dM n l):=inferInstanceAs (Decidable (∀i,i<l.length->_))
theorem y9 {l:List Int} (h:∀i,i<l.length->l.getD i 0∉l.take i):l.Nodup:=by
 rw[List.nodup_iff_pairwise_ne,List.pairwise_iff_getElem]
 intro i j hi hj hij e
 have:=h j hj
 rw[am 0 hj,<-e] at this
 exact this (List.mem_take_iff_getElem.2 ⟨i,by omega,rfl⟩)
theorem qH:∀{n:Nat} {l:List Int},l.Nodup->(∀x∈l,0<=x/\x<n)->l.length<=n
 |0,l,_,hb=>by
  cases l with
  |nil=>simp
  |cons a l=>have:=hb a (by simp);omega
 |n+1,l,hn,hb=>by
  have h1:(l.erase (n:Int)).length<=n:=qH (hn.erase _) fun x hx=>by
   have a:=hb x (List.mem_of_mem_erase hx)
   have b:x≠n:=fun e=>by subst e;exact(List.Nodup.not_mem_erase hn) hx
   omega
  have h2:l.length<=(l.erase (n:Int)).length+1:=by
   rw[List.length_erase];split<;>omega
  omega
theorem vy {n:Nat} {l:List Int} (h:dM n l):l.Nodup:=y9 fun i hi=>(h i hi).2
theorem gf {n:Nat} {l:List Int} (h:dM n l):l.length<=n:=qH (vy h) fun x hx=>by
 obtain⟨i,hi,e⟩:=List.getElem_of_mem hx
 have:=(h i hi).1
 rwa [am 0 hi,e] at this
def w7 (k:Nat):Nat->List Int->List (List Int)
 |0,at_=>[at_]
 |m+1,at_=>at_::(List.range k).flatMap fun i:Nat=>if(i:Int)∈at_ then[] else w7 k m (at_++[(i:Int)])
def rG (p:ap):List (List Int):=w7 (aA p.rules).length (aA p.rules).length []
def Ft (rs:List bE) (number:Nat):Nat->Nat
 |0=>number
 |m+1=>Ft rs number m / (1+(rs.getD (rs.length-1-m) au).guards.length)
def G3 (rs:List bE) (number i:Nat):Nat:=Ft rs number (rs.length-1-i) % (1+(rs.getD i au).guards.length)
def Bs (p:ap) (number:Nat):List Int:=(List.range p.rules.length).map fun i=>(G3 p.rules number i:Int)
theorem px (p:ap) (number:Nat):(Bs p number).length=p.rules.length:=by simp[Bs]
theorem w8 {p:ap} {number i:Nat} (h:i<p.rules.length):(Bs p number).getD i 0=(G3 p.rules number i:Int):=by
 rw[Bs,am 0 (by simp;exact h)];simp
theorem G4 (rs:List bE) (number i:Nat):G3 rs number i<=(rs.getD i au).guards.length:=by
 have:=Nat.mod_lt (Ft rs number (rs.length-1-i)) (show 0<1+(rs.getD i au).guards.length by omega)
 unfold G3;omega
def lx (p:ap):Prop:=p.fault=1\/p.fault=2
instance (p:ap):Decidable (lx p):=inferInstanceAs (Decidable (_\/_))
def EL (T:List fL) (sch:List Int) (j:Nat) (r:bE):Prop:=∀g∈r.guards,∃i,i<j/\T.getD (sch.getD i 0).toNat aW=g
instance (T:List fL) (sch:List Int) (j:Nat) (r:bE):Decidable (EL T sch j r):=inferInstanceAs (Decidable (∀g∈r.guards,_))
def za (p:ap) (sch:List Int) (j r:Nat):List Vb:=if EL (aA p.rules) sch j (p.rules.getD r au) then(if lx p then[⟨5,j,r⟩,⟨6,j,r⟩] else[⟨5,j,r⟩]) else[]
def dW (p:ap) (sch:List Int) (j k:Nat):List Vb:=(List.range k).flatMap (za p sch j)
def uF (p:ap) (q:aJ):List Vb:=(cA p q).map (fun x=>⟨3,0,x⟩)++(if lx p then p.initial.map (fun x=>(⟨4,0,x⟩:Vb)) else[])
def ao (p:ap) (q:aJ) (sch:List Int):List Vb:=[⟨0,0,0⟩,⟨1,0,0⟩,⟨2,0,0⟩]++uF p q++(List.range (sch.length+1)).flatMap fun j=>dW p sch j p.rules.length
theorem jQ (p:ap) (sch:List Int) (j k:Nat):dW p sch j (k+1)=dW p sch j k++za p sch j k:=by simp[dW,List.range_succ,List.flatMap_append]
theorem KU (p:ap) (sch:List Int) (j r:Nat):(za p sch j r).length<=2:=by unfold za;split<;>(try split)<;>simp
theorem py (p:ap) (sch:List Int) (j:Nat):∀k,(dW p sch j k).length<=2*k
 |0=>by simp[dW]
 |k+1=>by rw[jQ,List.length_append];have:=py p sch j k;have:=KU p sch j k;omega
theorem tG (p:ap) (sch:List Int) (m:Nat):∀k,((List.range k).flatMap fun j=>dW p sch j m).length<=2*m*k
 |0=>by simp
 |k+1=>by
  rw[List.range_succ,List.flatMap_append,List.length_append]
  have a:=tG p sch m k
  have b:=py p sch k m
  simp only[List.flatMap_cons,List.flatMap_nil,List.append_nil]
  rw[Nat.mul_add,Nat.mul_one]
  omega
theorem fC {p:ap} {sch:List Int} {j r:Nat} {v:Vb} (h:v∈za p sch j r):(v.kind=5\/v.kind=6/\lx p)/\v.seg=j/\v.idx=r/\EL (aA p.rules) sch j (p.rules.getD r au):=by
 unfold za at h
 split at h
 ·rename_i ha
  split at h
  ·rename_i hw
   simp only[List.mem_cons,List.not_mem_nil,or_false] at h
   rcases h with rfl|rfl
   ·exact⟨.inl rfl,rfl,rfl,ha⟩
   ·exact⟨.inr ⟨rfl,hw⟩,rfl,rfl,ha⟩
  ·simp only[List.mem_cons,List.not_mem_nil,or_false] at h
   subst h
   exact⟨.inl rfl,rfl,rfl,ha⟩
 ·simp at h
theorem EM (p:ap) (sch:List Int) (j r:Nat):(za p sch j r).Nodup:=by
 unfold za
 split
 ·split
  ·simp
  ·simp
 ·simp
theorem eJ {p:ap} {sch:List Int} {j k:Nat} {v:Vb} (h:v∈dW p sch j k):∃r,r<k/\v∈za p sch j r:=by
 unfold dW at h
 obtain⟨r,hr,hv⟩:=List.mem_flatMap.1 h
 exact⟨r,List.mem_range.1 hr,hv⟩
theorem tH (p:ap) (sch:List Int) (j:Nat):∀k,(dW p sch j k).Nodup
 |0=>by simp[dW]
 |k+1=>by
  rw[jQ,List.nodup_append]
  refine⟨tH p sch j k,EM p sch j k,fun a ha b hb e=>?_⟩
  obtain⟨r,hr,ha⟩:=eJ ha
  have:=(fC ha).2.2.1
  have:=(fC hb).2.2.1
  subst e
  omega
theorem tJ (p:ap) (sch:List Int) (m:Nat):∀k,((List.range k).flatMap fun j=>dW p sch j m).Nodup
 |0=>by simp
 |k+1=>by
  rw[List.range_succ,List.flatMap_append,List.nodup_append]
  simp only[List.flatMap_cons,List.flatMap_nil,List.append_nil]
  refine⟨tJ p sch m k,tH p sch k m,fun a ha b hb e=>?_⟩
  obtain⟨j,hj,ha⟩:=List.mem_flatMap.1 ha
  have hj:=List.mem_range.1 hj
  obtain⟨r,_,ha⟩:=eJ ha
  obtain⟨r',_,hb⟩:=eJ hb
  have:=(fC ha).2.1
  have:=(fC hb).2.1
  subst e
  omega
theorem i7 {l:List Int} {n:Int} (h:cE l n=0):l.Nodup:=by
 obtain⟨_,h2⟩:=pr h
 have key:∀(k i:Nat),i<k->k<l.length->l.getD i 0<l.getD k 0:=by
  intro k
  induction k with
  |zero=>intro i hi;omega
  |succ k ih=>
   intro i hi hk
   have h1:=h2 (k+1) hk (by omega)
   rw[Nat.add_sub_cancel] at h1
   by_cases e:i=k
   ·subst e;exact h1
   ·have:=ih i (by omega) (by omega);omega
 rw[List.nodup_iff_pairwise_ne,List.pairwise_iff_getElem]
 intro i j hi hj hij e
 have:=key j i hij hj
 rw[am 0 hi,am 0 hj,e] at this
 omega
theorem vz {l:List Int} {f:Int->Vb} (h:l.Nodup) (hf:∀a b,f a=f b->a=b):(l.map f).Nodup:=by
 rw[List.nodup_iff_pairwise_ne] at*
 exact List.pairwise_map.2 (h.imp fun hab e=>hab (hf _ _ e))
theorem cL {p:ap} {q:aJ} (h:bF p q=0) (sch:List Int):(ao p q sch).Nodup:=by
 have v:=bf h
 have hs:(cA p q).Nodup:=by
  unfold cA;split
  ·exact i7 v.start
  ·exact i7 (a9 v.vld).ini.1
 have hst:(uF p q).Nodup:=by
  unfold uF
  rw[List.nodup_append]
  refine⟨vz hs fun a b e=>by injection e,?_,fun a ha b hb e=>?_⟩
  ·split
   ·exact vz (i7 (a9 v.vld).ini.1) fun a b e=>by injection e
   ·simp
  ·obtain⟨x,_,rfl⟩:=List.mem_map.1 ha
   split at hb
   ·obtain⟨y,_,rfl⟩:=List.mem_map.1 hb
    injection e with e1
    omega
   ·simp at hb
 have hk:∀a∈uF p q,a.kind=3\/a.kind=4:=by
  intro a ha
  unfold uF at ha
  rcases List.mem_append.1 ha with ha|ha
  ·obtain⟨x,_,rfl⟩:=List.mem_map.1 ha;exact .inl rfl
  ·split at ha
   ·obtain⟨x,_,rfl⟩:=List.mem_map.1 ha;exact .inr rfl
   ·simp at ha
 have hk2:∀a∈((List.range (sch.length+1)).flatMap fun j=>dW p sch j p.rules.length),a.kind=5\/a.kind=6:=by
  intro a ha
  obtain⟨j,_,ha⟩:=List.mem_flatMap.1 ha
  obtain⟨r,_,ha⟩:=eJ ha
  have:=(fC ha).1
  omega
 unfold ao
 rw[List.nodup_append,List.nodup_append]
 refine⟨⟨by simp,hst,fun a ha b hb e=>?_⟩,tJ p sch _ _,fun a ha b hb e=>?_⟩
 ·subst e
  have:=hk a hb
  simp only[List.mem_cons,List.not_mem_nil,or_false] at ha
  rcases ha with rfl|rfl|rfl<;>simp at this
 ·subst e
  have h2:=hk2 a hb
  rcases List.mem_append.1 ha with ha|ha
  ·simp only[List.mem_cons,List.not_mem_nil,or_false] at ha
   rcases ha with rfl|rfl|rfl<;>simp at h2
  ·have:=hk a ha;omega
theorem KV {p:ap} {q:aJ} (h:bF p q=0):(uF p q).length<=12:=by
 have v:=bf h
 have w:=a9 v.vld
 have a:=bS v.start
 have b:=bS w.ini.1
 have c:=w.len
 unfold uF cA
 rw[List.length_append,List.length_map]
 split<;>split<;>simp<;>omega
theorem kw {p:ap} {q:aJ} (h:bF p q=0) {sch:List Int} (hs:dM (aA p.rules).length sch):(ao p q sch).length<=79:=by
 have w:=a9 (bf h).vld
 have a:=KV h
 have b:=tG p sch p.rules.length (sch.length+1)
 have c:=gf hs
 have d:=w.thr
 have e:=w.len
 have f:2*p.rules.length*(sch.length+1)<=16*4:=Nat.mul_le_mul (by omega) (by omega)
 unfold ao
 rw[List.length_append,List.length_append]
 simp only[List.length_cons,List.length_nil]
 omega
abbrev Co:=Vb->Int
def zC:Co:=fun _=>0
def eo (c:Co) (v0:Vb) (k:Int):Co:=fun v=>if v=v0 then c v+k else c v
theorem nl (c:Co) (v:Vb) (k:Int):eo c v k v=c v+k:=by simp[eo]
theorem nm (c:Co) {v v0:Vb} (k:Int) (h:v≠v0):eo c v0 k v=c v:=by simp[eo,h]
theorem ly (c:Co) {vars:List Vb} {m:Nat} (hm:m<vars.length):(vars.map c).getD m 0=c (vars.getD m im):=by
 rw[am 0 (by simpa using hm),am im hm,List.getElem_map]
theorem G5 (c:Co) {vars:List Vb} {v0:Vb} (k:Int) (h:v0∉vars):vars.map (eo c v0 k)=vars.map c:=
 List.map_congr_left fun v hv=>nm c k fun e=>h (e▸hv)
theorem KW (c:Co) {vars:List Vb} {m:Nat} (k:Int) (hn:vars.Nodup) (hm:m<vars.length):(vars.map c).set m (c (vars.getD m im)+k)=vars.map (eo c (vars.getD m im) k):=by
 generalize e0:vars.getD m im=v0
 have e0:vars[m]=v0:=by rw[<-e0,am im hm]
 apply List.ext_getElem
 ·simp
 ·intro i h1 h2
  rw[List.getElem_set,List.getElem_map]
  by_cases e:m=i
  ·subst e;rw[if_pos rfl,List.getElem_map,e0,nl]
  ·rw[if_neg e,List.getElem_map,nm]
   exact fun e2=>e ((List.getElem_inj hn).1 (e0.trans e2.symm))
noncomputable def mL (vars:List Vb) (kind:Int):Nat->Int×Int->Option Int
 |0=>fun _=>none
 |n+1=>if(vars.getD n im).kind=kind then uz (mL vars kind n) ((vars.getD n im).seg,(vars.getD n im).idx) (n:Int) else mL vars kind n
theorem kx {vars:List Vb} {kind s i:Int}:∀{n:Nat} {j:Int},mL vars kind n (s,i)=some j->∃m:Nat,j=m/\m<n/\vars.getD m im=⟨kind,s,i⟩
 |0,j,h=>by cases h
 |n+1,j,h=>by
  rw[mL] at h
  split at h
  ·rename_i hk
   by_cases e:(s,i)=((vars.getD n im).seg,(vars.getD n im).idx)
   ·rw[e,gJ] at h
    cases h
    injection e with e1 e2
    exact⟨n,rfl,by omega,lw hk e1.symm e2.symm⟩
   ·rw[jF _ _ e] at h
    obtain⟨m,a,b,c⟩:=kx h
    exact⟨m,a,by omega,c⟩
  ·obtain⟨m,a,b,c⟩:=kx h
   exact⟨m,a,by omega,c⟩
theorem tK {vars:List Vb} {kind s i:Int}:∀{n:Nat},mL vars kind n (s,i)=none->∀m,m<n->vars.getD m im≠⟨kind,s,i⟩
 |0,_,m,hm=>by omega
 |n+1,h,m,hm=>by
  rw[mL] at h
  by_cases e:m=n
  ·subst e
   intro e2
   rw[e2,if_pos rfl,gJ] at h
   cases h
  ·split at h
   ·rename_i hk
    by_cases e:(s,i)=((vars.getD n im).seg,(vars.getD n im).idx)
    ·rw[e,gJ] at h;cases h
    ·rw[jF _ _ e] at h
     exact tK h m (by omega)
   ·exact tK h m (by omega)
theorem vB {vars:List Vb} {kind s i:Int} (h:mL vars kind vars.length (s,i)=none):(⟨kind,s,i⟩:Vb)∉vars:=by
 intro hm
 obtain⟨m,hm,e⟩:=List.getElem_of_mem hm
 exact tK h m hm (by rw[am im hm,e])
def gt (l:l7):Co:=fun v=>if v=⟨0,0,0⟩ then l.n else if v=⟨1,0,0⟩ then l.t else if v=⟨2,0,0⟩ then l.f else 0
def cB (c:Co) (k:Int) (d:Co):Co:=fun v=>c v+k*d v
def gg (n:Nat) (fire:Int) (j i:Nat) (v:Vb):Prop:=v.kind=fire/\0<=v.seg/\0<=v.idx/\(v.seg<j/\v.idx<n\/v.seg=j/\v.idx<i)
instance (n:Nat) (fire:Int) (j i:Nat) (v:Vb):Decidable (gg n fire j i v):=inferInstanceAs (Decidable (_/\_))
def Mx (rs:List bE) (state:Int) (v:Vb):Int:=(if(rs.getD v.idx.toNat au).dst=state then 1 else 0)-(if(rs.getD v.idx.toNat au).src=state then 1 else 0)
def cG (rs:List bE) (start fire state:Int) (j i:Nat):Co:=fun v=>(if v=⟨start,0,state⟩ then 1 else 0)+if gg rs.length fire j i v then Mx rs state v else 0
def cH (rs:List bE) (fire message:Int) (j i:Nat):Co:=fun v=>if gg rs.length fire j i v/\message∈(rs.getD v.idx.toNat au).send then 1 else 0
theorem pz (n:Nat) (fire:Int) (j i:Nat) (v:Vb):gg n fire j (i+1) v↔gg n fire j i v\/v=⟨fire,j,i⟩:=by
 unfold gg
 constructor
 ·rintro⟨h1,h2,h3,h4⟩
  by_cases e:v.seg=j/\v.idx=i
  ·exact .inr (lw h1 e.1 e.2)
  ·exact .inl ⟨h1,h2,h3,by omega⟩
 ·rintro(⟨h1,h2,h3,h4⟩|rfl)
  ·exact⟨h1,h2,h3,by omega⟩
  ·refine⟨rfl,?_,?_,?_⟩<;>dsimp only<;>omega
theorem w9 (n:Nat) (fire:Int) (j i:Nat):¬gg n fire j i ⟨fire,j,i⟩:=by unfold gg;dsimp only;omega
theorem CP (n:Nat) (fire:Int) (j:Nat) (v:Vb):gg n fire j n v↔gg n fire (j+1) 0 v:=by unfold gg;omega
theorem KX (rs:List bE) (start fire state:Int) (j:Nat):cG rs start fire state j rs.length=cG rs start fire state (j+1) 0:=by
 funext v;unfold cG;simp only[CP]
theorem KY (rs:List bE) (fire message:Int) (j:Nat):cH rs fire message j rs.length=cH rs fire message (j+1) 0:=by
 funext v;unfold cH;simp only[CP]
theorem G6 (rs:List bE) (start fire state:Int) (j i:Nat) (v:Vb):-1<=cG rs start fire state j i v/\cG rs start fire state j i v<=2:=by
 unfold cG Mx
 (repeat' split)<;>omega
theorem vC (rs:List bE) (fire message:Int) (j i:Nat) (v:Vb):0<=cH rs fire message j i v/\cH rs fire message j i v<=1:=by
 unfold cH
 split<;>omega
theorem G7 (rs:List bE) (fire message:Int) (j i:Nat) (c:Co) (k:Int):cB c k (cH rs fire message j (i+1))=if message∈(rs.getD i au).send then eo (cB c k (cH rs fire message j i)) ⟨fire,j,i⟩ k else cB c k (cH rs fire message j i):=by
 funext v
 by_cases e:v=⟨fire,j,i⟩
 ·subst e
  by_cases hm:message∈(rs.getD i au).send
  ·rw[if_pos hm,nl]
   unfold cB cH
   rw[if_pos ⟨(pz _ _ _ _ _).2 (.inr rfl),by simpa using hm⟩,if_neg (fun h=>w9 _ _ _ _ h.1)]
   omega
  ·rw[if_neg hm]
   unfold cB cH
   rw[if_neg (fun h=>hm (by simpa using h.2)),if_neg (fun h=>w9 _ _ _ _ h.1)]
 ·have a:gg rs.length fire j (i+1) v↔gg rs.length fire j i v:=by rw[pz];simp[e]
  have b:cB c k (cH rs fire message j (i+1)) v=cB c k (cH rs fire message j i) v:=by unfold cB cH;simp only[a]
  rw[b]
  split
  ·rw[nm _ _ e]
  ·rfl
def G8 (rs:List bE) (c:Co) (k state fire:Int) (j i:Nat):Co:=
 let c1:=if(rs.getD i au).dst=state then eo c ⟨fire,j,i⟩ k else c
 if(rs.getD i au).src=state then eo c1 ⟨fire,j,i⟩ (-k) else c1
theorem G9 (rs:List bE) (start fire state:Int) (j i:Nat) (c:Co) (k:Int):cB c k (cG rs start fire state j (i+1))=G8 rs (cB c k (cG rs start fire state j i)) k state fire j i:=by
 funext v
 unfold G8
 by_cases e:v=⟨fire,j,i⟩
 ·subst e
  have h1:=(pz rs.length fire j i ⟨fire,j,i⟩).2 (.inr rfl)
  have h2:=w9 rs.length fire j i
  have e2:(⟨fire,j,i⟩:Vb).idx.toNat=i:=by simp
  have key:cB c k (cG rs start fire state j (i+1)) ⟨fire,j,i⟩=cB c k (cG rs start fire state j i) ⟨fire,j,i⟩+k*Mx rs state ⟨fire,j,i⟩:=by
   unfold cB cG
   rw[if_pos h1,if_neg h2,Int.mul_add,Int.mul_add]
   omega
  rw[key]
  unfold Mx
  rw[e2]
  by_cases hd:(rs.getD i au).dst=state<;>by_cases hs:(rs.getD i au).src=state<;>simp only[hd,hs,if_pos,if_neg,if_true,if_false,nl,not_false_eq_true]<;>omega
 ·have a:gg rs.length fire j (i+1) v↔gg rs.length fire j i v:=by rw[pz];simp[e]
  have b:cB c k (cG rs start fire state j (i+1)) v=cB c k (cG rs start fire state j i) v:=by unfold cB cG;simp only[a]
  rw[b]
  split<;>split<;>simp only[nm _ _ e]
theorem KZ (c:Co) (k:Int) (l:l7):eo (eo (eo c ⟨0,0,0⟩ (k*l.n)) ⟨1,0,0⟩ (k*l.t)) ⟨2,0,0⟩ (k*l.f)=cB c k (gt l):=by
 funext v
 unfold eo cB gt
 by_cases h0:v=⟨0,0,0⟩
 ·subst h0;simp
 ·by_cases h1:v=⟨1,0,0⟩
  ·subst h1;simp
  ·by_cases h2:v=⟨2,0,0⟩
   ·subst h2;simp
   ·simp[h0,h1,h2]
def uG (kind:Int) (n:Nat):Co:=fun v=>if v.kind=kind/\v.seg=0/\0<=v.idx/\v.idx<n then 1 else 0
theorem K2 (kind:Int) (n:Nat) (c:Co) (k:Int):cB c k (uG kind (n+1))=eo (cB c k (uG kind n)) ⟨kind,0,n⟩ k:=by
 funext v
 by_cases e:v=⟨kind,0,n⟩
 ·subst e
  rw[nl]
  unfold cB uG
  rw[if_pos ⟨rfl,rfl,by dsimp only;omega,by dsimp only;omega⟩,if_neg (by dsimp only;omega)]
  omega
 ·rw[nm _ _ e]
  unfold cB uG
  have h:(v.kind=kind/\v.seg=0/\0<=v.idx/\v.idx<(n+1:Nat))↔(v.kind=kind/\v.seg=0/\0<=v.idx/\v.idx<n):=by
   constructor
   ·intro h
    have:v.idx≠n:=fun h2=>e (lw h.1 h.2.1 h2)
    omega
   ·intro h;omega
  simp only[h]
abbrev Rw:=Co×Int
def dj (vars:List Vb) (r:Rw):br:=⟨vars.map r.1,r.2⟩
def uH (l:l7):Rw:=(gt l,l.c)
def gh (kind:Int) (n:Nat) (k:Int) (l:l7):Rw:=(cB (cB zC k (uG kind n)) (-k) (gt l),-k*l.c)
def nM (p:ap) (g:fL) (j:Nat):Rw:=
 let c1:=cB (cB zC g.coef (cH p.rules 5 g.message j 0)) g.coef (cH p.rules 6 g.message j 0)
 let c2:=if p.fault=3 then eo c1 ⟨2,0,0⟩ g.coef else c1
 (cB c2 (-1) (gt g.bound),-g.bound.c)
def tL (p:ap) (start fire:Int) (x j:Nat):Rw:=(cB zC 1 (cG p.rules start fire x (j+1) 0),0)
def xa (p:ap) (seg:Nat) (states:List Int) (least:Int):Rw:=(states.foldl (fun c x=>cB c 1 (cG p.rules 3 5 x (seg+1) 0)) zC,-least)
def uJ (p:ap) (seg:Nat) (r:bE) (ch:Int):Rw:=
 if ch=0 then(cB zC (-1) (cG p.rules 3 5 r.src (seg+1) 0),0)
 else
  let g:=r.guards.getD (ch-1).toNat aW
  let c1:=cB zC (-g.coef) (cH p.rules 5 g.message (seg+1) 0)
  let c2:=if p.fault=1 then cB c1 (-g.coef) (cH p.rules 6 g.message (seg+1) 0) else c1
  (cB c2 1 (gt g.bound),g.bound.c-1)
def ky (p:ap):List l7:=[⟨-1,1,0,0⟩,⟨0,1,-1,0⟩,⟨0,1,0,-1⟩]++(if p.fault=0 then[⟨0,0,-1,0⟩,⟨0,0,0,-1⟩] else[])++p.resilience
def lV (p:ap):List Rw:=[gh 3 p.states.length 1 ⟨0,1,0,-1⟩,gh 3 p.states.length (-1) ⟨0,1,0,-1⟩]++if lx p then[gh 4 p.states.length 1 ⟨0,0,0,1⟩,gh 4 p.states.length (-1) ⟨0,0,0,1⟩] else[]
def lW (p:ap) (sch:List Int) (j:Nat):List Rw:=
 (if 0<j then[nM p ((aA p.rules).getD (sch.getD (j-1) 0).toNat aW) j] else[])++((List.range p.states.length).map fun x=>tL p 3 5 x j)++(if lx p then(List.range p.states.length).map fun x=>tL p 4 6 x j else[])
def K3 (p:ap) (q:aJ):List Int:=((List.range p.states.length).map fun x:Nat=>(x:Int)).filter fun x=>decide (x∉q.goal)
def qI (p:ap) (q:aJ) (seg number:Nat):List Rw:=
 if q.kind=1 then q.bad.map fun c=>xa p seg c.states c.least
 else xa p seg (K3 p q) 1::(List.range p.rules.length).map fun i=>uJ p seg (p.rules.getD i au) ((Bs p number).getD i 0)
def iQ (p:ap) (q:aJ) (sch:List Int) (number:Int):List Rw:=
 (ky p).map uH++lV p++((List.range (sch.length+1)).flatMap (lW p sch))++if 0<=number then qI p q sch.length number.toNat else[]
def eg (p:ap) (q:aJ) (sch:List Int) (number:Int):List br:=(iQ p q sch number).map (dj (ao p q sch))
def My (p:ap) (sch:List Int) (v:Vb):Prop:=
 (v=⟨0,0,0⟩\/v=⟨1,0,0⟩\/v=⟨2,0,0⟩)\/((v.kind=3\/v.kind=4/\lx p)/\v.seg=0/\0<=v.idx/\v.idx<p.states.length)\/
 ((v.kind=5\/v.kind=6/\lx p)/\(0<=v.seg/\v.seg<=sch.length)/\0<=v.idx/\v.idx<p.rules.length)
theorem tM {l:List Int} {n:Int} (h:cE l n=0):∀x∈l,0<=x/\x<n:=by
 intro x hx
 obtain⟨i,hi,e⟩:=List.getElem_of_mem hx
 have:=(pr h).1 i hi
 rwa [am 0 hi,e] at this
theorem Mz {p:ap} {q:aJ} (h:bF p q=0):∀x∈cA p q,0<=x/\x<p.states.length:=by
 have v:=bf h
 unfold cA
 split
 ·exact tM v.start
 ·exact tM (a9 v.vld).ini.1
theorem kz {p:ap} {q:aJ} {sch:List Int} (h:bF p q=0) {v:Vb} (hv:v∈ao p q sch):My p sch v:=by
 unfold ao at hv
 rcases List.mem_append.1 hv with hv|hv
 ·rcases List.mem_append.1 hv with hv|hv
  ·simp only[List.mem_cons,List.not_mem_nil,or_false] at hv
   exact .inl hv
  ·right;left
   unfold uF at hv
   rcases List.mem_append.1 hv with hv|hv
   ·obtain⟨x,hx,rfl⟩:=List.mem_map.1 hv
    exact⟨.inl rfl,rfl,Mz h x hx⟩
   ·split at hv
    ·rename_i hw
     obtain⟨x,hx,rfl⟩:=List.mem_map.1 hv
     exact⟨.inr ⟨rfl,hw⟩,rfl,tM (a9 (bf h).vld).ini.1 x hx⟩
    ·simp at hv
 ·right;right
  obtain⟨j,hj,hv⟩:=List.mem_flatMap.1 hv
  have hj:=List.mem_range.1 hj
  obtain⟨r,hr,hv⟩:=eJ hv
  obtain⟨a,b,c,_⟩:=fC hv
  exact⟨a,by omega,by omega⟩
def vD (kind:Int):Co:=fun v=>if v.kind=kind then 1 else 0
section
variable {p:ap} {sch:List Int} {v:Vb}
end
def iR (rs:List bE) (ns:Nat):List Int:=(List.range ns).flatMap fun x:Nat=>((List.range rs.length).filter fun r=>decide ((rs.getD r au).src=(x:Int))).map fun r:Nat=>(r:Int)
end
section
set_option maxRecDepth 100000
section
variable (k:Int->Int)
def EN (a b:Int):Prop:=k a<k b\/(k a=k b/\a<b)
def G' (ns n:Nat):List Int:=(List.range ns).flatMap fun x:Nat=>((List.range n).filter fun r:Nat=>decide (k (r:Int)=(x:Int))).map fun r:Nat=>(r:Int)
end
section
variable {k:Int->Int}
theorem Ha:∀{l m:List Int},l.Pairwise (EN k)->m.Pairwise (EN k)->(∀x,x∈l↔x∈m)->l=m
 |[],[],_,_,_=>rfl
 |[],b::m,_,_,h=>by have:=(h b).2 List.mem_cons_self;cases this
 |a::l,[],_,_,h=>by have:=(h a).1 List.mem_cons_self;cases this
 |a::l,b::m,h1,h2,h=>by
  rw[List.pairwise_cons] at h1 h2
  have e:a=b:=by
   rcases List.mem_cons.1 ((h a).1 List.mem_cons_self) with e|ha
   ·exact e
   ·rcases List.mem_cons.1 ((h b).2 List.mem_cons_self) with e|hb
    ·exact e.symm
    ·have x:=h2.1 a ha
     have y:=h1.1 b hb
     unfold EN at x y
     omega
  subst e
  have irr:¬EN k a a:=by unfold EN;omega
  rw[Ha h1.2 h2.2 fun x=>⟨fun hx=>?_,fun hx=>?_⟩]
  ·rcases List.mem_cons.1 ((h x).1 (List.mem_cons_of_mem _ hx)) with rfl|hm
   ·exact absurd (h1.1 _ hx) irr
   ·exact hm
  ·rcases List.mem_cons.1 ((h x).2 (List.mem_cons_of_mem _ hx)) with rfl|hm
   ·exact absurd (h2.1 _ hx) irr
   ·exact hm
theorem Hb {ns n:Nat} (h:∀r:Nat,r<n->0<=k r/\k r<ns) (x:Int):x∈G' k ns n↔∃r:Nat,r<n/\x=r:=by
 unfold G'
 simp only[List.mem_flatMap,List.mem_map,List.mem_filter,List.mem_range,decide_eq_true_eq]
 constructor
 ·rintro⟨_,_,r,⟨hr,_⟩,rfl⟩;exact⟨r,hr,rfl⟩
 ·rintro⟨r,hr,rfl⟩
  have:=h r hr
  exact⟨(k r).toNat,by omega,r,⟨hr,by omega⟩,rfl⟩
theorem K4 (ns n:Nat):(G' k ns n).Pairwise (EN k):=by
 unfold G'
 rw[List.pairwise_flatMap]
 refine⟨fun x _=>?_,?_⟩
 ·rw[List.pairwise_map]
  have h0:(List.range n).Pairwise (·<·):=List.pairwise_lt_range
  refine(List.Pairwise.filter _ h0).imp_of_mem fun{a b} ha hb hab=>?_
  have ha:=(List.mem_filter.1 ha).2
  have hb:=(List.mem_filter.1 hb).2
  simp only[decide_eq_true_eq] at ha hb
  unfold EN
  omega
 ·have h0:(List.range ns).Pairwise (·<·):=List.pairwise_lt_range
  refine h0.imp fun{a b} hab x hx y hy=>?_
  obtain⟨r,hr,rfl⟩:=List.mem_map.1 hx
  obtain⟨s,hs,rfl⟩:=List.mem_map.1 hy
  have hr:=(List.mem_filter.1 hr).2
  have hs:=(List.mem_filter.1 hs).2
  simp only[decide_eq_true_eq] at hr hs
  unfold EN
  omega
structure CQ (k:Int->Int) (i:Nat) (L:List Int):Prop where
 len:L.length=i
 pw:L.Pairwise (EN k)
 mem:∀x,x∈L↔∃r:Nat,r<i/\x=r
theorem CQ.one:CQ k 1 [0]:=⟨rfl,by simp,fun x=>by
 rw[List.mem_singleton]
 exact⟨fun h=>⟨0,by omega,h⟩,fun⟨r,hr,h⟩=>by rw[h,show r=0 by omega];rfl⟩⟩
theorem CQ.ext {n ns:Nat} {L:List Int} (h:CQ k n L) (hk:∀r:Nat,r<n->0<=k r/\k r<ns):L=G' k ns n:=
 Ha h.pw (K4 ns n) fun x=>by rw[h.mem,Hb hk]
theorem CQ.next {i j:Nat} {L:List Int} (h:CQ k i L) (hj:j<=i) (h1:∀x∈L.drop j,k i<k x) (h2:j=0\/k (L.getD (j-1) 0)<=k i):CQ k (i+1) (L.take j++[(i:Int)]++L.drop j):=by
 have hl:=h.len
 have hsplit:L.take j++L.drop j=L:=List.take_append_drop j L
 have hpw:(L.take j++L.drop j).Pairwise (EN k):=by rw[hsplit];exact h.pw
 rw[List.pairwise_append] at hpw
 have hlow:∀x∈L.take j,EN k x i:=by
  intro x hx
  have hxi:x<i:=by
   obtain⟨r,hr,rfl⟩:=(h.mem x).1 (List.mem_of_mem_take hx)
   omega
  obtain⟨a,ha,e⟩:=List.mem_take_iff_getElem.1 hx
  have hj0:j≠0:=by omega
  have h2:=h2.resolve_left hj0
  rw[am 0 (by omega)] at h2
  have hle:k x<=k (L[j-1]'(by omega)):=by
   by_cases e2:a=j-1
   ·subst e2;rw[<-e];exact Int.le_refl _
   ·have:=List.pairwise_iff_getElem.1 h.pw a (j-1) (by omega) (by omega) (by omega)
    rw[e] at this
    unfold EN at this
    omega
  unfold EN
  omega
 refine⟨?_,?_,fun x=>?_⟩
 ·simp only[List.length_append,List.length_take,List.length_cons,List.length_nil,List.length_drop]
  omega
 ·rw[List.pairwise_append,List.pairwise_append]
  refine⟨⟨hpw.1,by simp,fun x hx y hy=>?_⟩,hpw.2.1,fun x hx y hy=>?_⟩
  ·rw[List.mem_singleton] at hy;subst hy;exact hlow x hx
  ·rcases List.mem_append.1 hx with hx|hx
   ·exact hpw.2.2 x hx y hy
   ·rw[List.mem_singleton] at hx;subst hx
    exact .inl (h1 y hy)
 ·rw[List.mem_append,List.mem_append,List.mem_singleton]
  have hm:(x∈L.take j\/x∈L.drop j)↔x∈L:=by rw[<-List.mem_append,hsplit]
  constructor
  ·rintro((hx|rfl)|hx)
   ·obtain⟨r,hr,e⟩:=(h.mem x).1 (hm.1 (.inl hx));exact⟨r,by omega,e⟩
   ·exact⟨i,by omega,rfl⟩
   ·obtain⟨r,hr,e⟩:=(h.mem x).1 (hm.1 (.inr hx));exact⟨r,by omega,e⟩
  ·rintro⟨r,hr,e⟩
   by_cases e2:r=i
   ·subst e2;exact .inl (.inr e)
   ·rcases hm.2 ((h.mem x).2 ⟨r,by omega,e⟩) with hx|hx
    ·exact .inl (.inl hx)
    ·exact .inr hx
def pA (L R:List Int) (i:Int) (j:Nat):List Int:=L.take j++[i]++L.drop j++R
theorem Hc {L R:List Int} {i:Int} {j:Nat} (hj:j<=L.length):(pA L R i j).length=L.length+1+R.length:=by
 unfold pA
 simp only[List.length_append,List.length_take,List.length_cons,List.length_nil,List.length_drop]
 omega
theorem Hd (L R:List Int) (i:Int):pA L R i L.length=L++i::R:=by
 unfold pA
 simp
theorem K5 {L R:List Int} {i:Int} {j:Nat} (hj:j<=L.length):(pA L R i j).getD j 0=i:=by
 unfold pA
 rw[List.append_assoc,List.append_assoc,gD,List.getElem?_append_right (by rw[List.length_take];omega)]
 simp[Nat.min_eq_left hj]
theorem Bt {L R:List Int} {i:Int} {j:Nat} (hj:j<L.length):(pA L R i (j+1)).getD j 0=L.getD j 0:=by
 unfold pA
 rw[List.append_assoc,List.append_assoc,gD,List.getElem?_append_left (by simp;omega),List.getElem?_take,if_pos (by omega),<-gD]
theorem EO {L R:List Int} {i:Int} {j:Nat} (hj:j<L.length):((pA L R i (j+1)).set (j+1) (L.getD j 0)).set j i=pA L R i j:=by
 have e1:L.take (j+1)=L.take j++[L.getD j 0]:=by
  rw[List.take_succ_eq_append_getElem hj,am 0 hj]
 have e2:L.drop j=L.getD j 0::L.drop (j+1):=by
  rw[List.drop_eq_getElem_cons hj,am 0 hj]
 unfold pA
 rw[e1,e2]
 generalize L.getD j 0=x
 have hl:(L.take j).length=j:=by rw[List.length_take];omega
 simp only[List.append_assoc,List.cons_append,List.nil_append]
 rw[List.set_append_right _ _ (by omega),hl,show j+1-j=1 by omega,List.set_append_right _ _ (by omega),hl,Nat.sub_self]
 rfl
end
end
end Go.Proofs.YtekmminpfhacpaaGreatDoor
