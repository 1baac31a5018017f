import Derived.Test.YtnjggjhkfncnlaaGreatDoorM5
import Derived.Test.YtnjggjhkfncnlaaGreatDoorPlR
set_option linter.unusedVariables false
set_option linter.unusedSimpArgs false
namespace Go.Proofs.YtnjggjhkfncnlaaGreatDoor
set_option maxRecDepth 100000
set_option maxHeartbeats 8000000
theorem mC {l:List Int} {n:Int} (h:bQ l n=0):jC l n/\wL l:=by
 unfold bQ at h
 by_cases h1:jC l n
 ·rw[if_pos h1] at h
  by_cases h2:wL l
  ·exact⟨h1,h2⟩
  ·rw[if_neg h2] at h;omega
 ·rw[if_neg h1] at h;omega
theorem EV {l:List Int} {n:Int} (h:bQ l n=0):∀k,k<l.length->(k:Int)<=l.getD k 0:=by
 obtain⟨h1,h2⟩:=mC h
 intro k
 induction k with
 |zero=>intro hk;exact(h1 0 hk).1
 |succ k ih=>
  intro hk
  have a:=ih (by omega)
  have b:=h2 (k+1) hk (by omega)
  rw[Nat.add_sub_cancel] at b
  omega
theorem bq {l:List Int} {n:Nat} (h:bQ l n=0):l.length<=n:=by
 by_cases h0:l.length=0
 ·omega
 have a:=EV h (l.length-1) (by omega)
 have b:=(mC h).1 (l.length-1) (by omega)
 omega
structure KZ (p:au):Prop where
 name:cx p.name
 top:1<=p.topology/\p.topology<=4/\0<=p.fault/\p.fault<=3
 len:0<p.states.length/\p.states.length<=6/\p.messages.length<=3/\p.values.length<=3/\p.resilience.length<=4/\p.rules.length<=8
 nms:nu (dw p)
 shp:¬((p.topology≠1/\(0<p.messages.length\/0<p.values.length\/0<p.resilience.length\/p.fault≠0))\/(p.topology=1/\0<p.leader.length))
 res:om p
 ini:bQ p.initial p.states.length=0/\0<p.initial.length/\bQ p.leader p.states.length=0
 rul:∀i,i<p.rules.length->cg p i (p.rules.getD i ar)=0
 thr:(aA p.rules).length<=3
theorem aK {p:au} (h:aB p=0):KZ p:=by
 unfold aB at h
 by_cases h1:¬cx p.name
 ·rw[if_pos h1] at h;omega
 rw[if_neg h1] at h
 by_cases h2:p.topology<1\/4<p.topology\/p.fault<0\/3<p.fault
 ·rw[if_pos h2] at h;omega
 rw[if_neg h2] at h
 by_cases h3:p.states.length=0
 ·rw[if_pos h3] at h;omega
 rw[if_neg h3] at h
 by_cases h4:6<p.states.length\/3<p.messages.length\/3<p.values.length\/4<p.resilience.length\/8<p.rules.length
 ·rw[if_pos h4] at h;omega
 rw[if_neg h4] at h
 by_cases h5:¬nu (dw p)
 ·rw[if_pos h5] at h;omega
 rw[if_neg h5] at h
 by_cases h6:(p.topology≠1/\(0<p.messages.length\/0<p.values.length\/0<p.resilience.length\/p.fault≠0))\/(p.topology=1/\0<p.leader.length)
 ·rw[if_pos h6] at h;omega
 rw[if_neg h6] at h
 by_cases h7:¬om p
 ·rw[if_pos h7] at h;omega
 rw[if_neg h7] at h
 have hz:=ci h
 have a1:=hz (if p.initial.length=0 then 1 else 0) (by simp)
 have a2:=hz (g9 p) (by simp)
 have a3:=hz (if 3<(aA p.rules).length then 4 else 0) (by simp)
 refine⟨Classical.not_not.1 h1,by omega,by omega,Classical.not_not.1 h5,h6,Classical.not_not.1 h7,⟨hz _ (by simp),?_,hz _ (by simp)⟩,fun i hi=>?_,?_⟩
 ·split at a1<;>omega
 ·exact ci a2 _ (List.mem_map.2 ⟨i,List.mem_range.2 hi,rfl⟩)
 ·split at a3<;>omega
theorem G6 {l:List Int} {n:Int} (h:iJ l n=0):(l.length:Int)=n:=by
 unfold iJ at h
 split at h<;>omega
theorem w4 {p:au} {i:Nat} {r:bp} (hl:0<p.states.length/\p.states.length<=6/\p.messages.length<=3) (h:cg p i r=0):¬my r:=by
 obtain⟨h1,h2,h3,_,_,h6⟩:=hH h
 have hn:=h1.1.2
 unfold il at h3
 unfold fe at h2
 unfold c7 at h6
 unfold my
 have hk:r.kind=1\/r.kind=2\/r.kind=3\/r.kind=4\/r.kind=5:=by omega
 rcases hk with k|k|k|k|k
 ·rw[if_pos k] at h6
  have hz:=ci h6
  have c1:=pQ (hz (aG p.messages.length r.guards) (by simp))
  have c2:=bq (hz (bQ r.some_ p.states.length) (by simp))
  have c3:=bq (hz (bQ r.forall_ p.states.length) (by simp))
  have c4:=bq (hz (bQ r.send p.messages.length) (by simp))
  omega
 ·omega
 ·rw[if_neg (by omega),if_neg (by omega),if_pos k] at h6
  have c1:=G6 (ci h6 (iJ r.response p.states.length) (by simp))
  omega
 ·rw[if_neg (by omega),if_neg (by omega),if_neg (by omega),if_pos k] at h6
  have hz:=ci h6
  have c1:=bq (hz (bQ r.left p.states.length) (by simp))
  have c2:=bq (hz (bQ r.right p.states.length) (by simp))
  have c3:=bq (hz (bQ r.parent p.states.length) (by simp))
  omega
 ·omega
theorem zH {p:au} (h:nu (dw p)):¬mz p.states/\¬mz p.messages/\¬mz p.values:=by
 have key:∀s∈dw p,s.size<=12:=by
  intro s hs
  obtain⟨j,hj,e⟩:=List.getElem_of_mem hs
  have:=(h j hj).1.1.2
  rwa [gD,gL hj,Option.getD_some,e] at this
 have go:∀l:List ByteArray,(∀s∈l,s∈dw p)->¬mz l:=by
  rintro l hl ⟨j,hj,hlt⟩
  have:=key _ (hl _ (aP (l:=l) t0 hj))
  omega
 refine⟨go _ fun s hs=>?_,go _ fun s hs=>?_,go _ fun s hs=>?_⟩<;>simp[dw,hs]
theorem dZ {p:au} (h:aB p=0):¬fD p:=by
 have v:=aK h
 have h1:=v.name.1.2
 have h2:=bq v.ini.1
 have h3:=bq v.ini.2.2
 have h4:=v.len
 obtain⟨n1,n2,n3⟩:=zH v.nms
 have h5:¬∃j,j<p.rules.length/\my (p.rules.getD j ar):=fun⟨j,hj,hb⟩=>w4 ⟨h4.1,h4.2.1,h4.2.2.1⟩ (v.rul j hj) hb
 unfold fD
 rintro(h|h|h|h|h|h|h|h|h|h|h|h)
 any_goals omega
 all_goals first|exact h5 h|exact n1 h|exact n2 h|exact n3 h
structure KG (p:au) (q:aV):Prop where
 vld:aB p=0
 name:cx q.name
 kind:q.kind=1\/q.kind=2
 shp:¬((q.kind=1/\0<q.goal.length)\/(q.kind=2/\(0<q.bad.length\/0<q.adjacent.length)))
 start:bQ q.start p.states.length=0
 ini:∀j,j<q.start.length->q.start.getD j 0∈p.initial
 goal:q.kind=2->bQ q.goal p.states.length=0/\0<q.goal.length
 bad:q.kind=1->q.bad.length<=3/\od p.states.length q.bad=0/\nw p q.adjacent=0/\¬(q.bad.length=0/\q.adjacent.length=0)
theorem aQ {p:au} {q:aV} (h:aZ p q=0):KG p q:=by
 unfold aZ at h
 by_cases h1:aB p≠0
 ·rw[if_pos h1] at h;omega
 rw[if_neg h1] at h
 by_cases h2:¬cx q.name
 ·rw[if_pos h2] at h;omega
 rw[if_neg h2] at h
 by_cases h3:q.kind≠1/\q.kind≠2
 ·rw[if_pos h3] at h;omega
 rw[if_neg h3] at h
 by_cases h4:(q.kind=1/\0<q.goal.length)\/(q.kind=2/\(0<q.bad.length\/0<q.adjacent.length))
 ·rw[if_pos h4] at h;omega
 rw[if_neg h4] at h
 by_cases h5:bQ q.start p.states.length≠0
 ·rw[if_pos h5] at h;omega
 rw[if_neg h5] at h
 by_cases h6:¬(∀j,j<q.start.length->q.start.getD j 0∈p.initial)
 ·rw[if_pos h6] at h;omega
 rw[if_neg h6] at h
 refine⟨by omega,Classical.not_not.1 h2,by omega,h4,by omega,Classical.not_not.1 h6,fun k=>?_,fun k=>?_⟩
 ·rw[if_pos k] at h
  have hz:=ci h
  have a:=hz (if q.goal.length=0 then 1 else 0) (by simp)
  refine⟨hz _ (by simp),?_⟩
  split at a<;>omega
 ·rw[if_neg (by omega)] at h
  have hz:=ci h
  have a:=hz (if q.bad.length=0/\q.adjacent.length=0 then 1 else 0) (by simp)
  have b:=hz (if 3<q.bad.length then 4 else 0) (by simp)
  refine⟨?_,hz _ (by simp),hz _ (by simp),?_⟩
  ·split at b<;>omega
  ·split at a
   ·omega
   ·assumption
theorem k0 {p:au} {q:aV} (h:KG p q) (k:q.kind=1) {j:Nat} (hj:j<q.bad.length):bQ (q.bad.getD j bP).states p.states.length=0/\0<(q.bad.getD j bP).states.length/\1<=(q.bad.getD j bP).least/\(q.bad.getD j bP).least<=3:=by
 have hz:=ci (h.bad k).2.1
 have hc:=ci (hz (zB p.states.length (q.bad.getD j bP)) (List.mem_map.2 ⟨_,aP _ hj,rfl⟩))
 have a:=hc (if(q.bad.getD j bP).states.length=0\/(q.bad.getD j bP).least<1\/3<(q.bad.getD j bP).least then 1 else 0) (by simp)
 refine⟨hc _ (by simp),?_⟩
 split at a<;>omega
theorem vg {p:au} {q:aV} (h:aZ p q=0):¬wS q:=by
 have v:=aQ h
 have h1:=v.name.1.2
 have hs:=(aK v.vld).len
 have h2:=bq v.start
 have h3:q.goal.length<=6:=by
  rcases v.kind with k|k
  ·have:=v.shp;omega
  ·have:=bq (v.goal k).1;omega
 have h4:q.bad.length<=3/\q.adjacent.length<=2:=by
  rcases v.kind with k|k
  ·refine⟨(v.bad k).1,?_⟩
   have ha:=(v.bad k).2.2.1
   unfold nw at ha
   split at ha
   ·omega
   ·split at ha
    ·omega
    ·split at ha<;>omega
  ·have:=v.shp;omega
 have h5:¬∃j,j<q.bad.length/\60<(q.bad.getD j bP).states.length:=by
  rintro⟨j,hj,hb⟩
  rcases v.kind with k|k
  ·have:=bq (k0 v k hj).1;omega
  ·have:=v.shp;omega
 unfold wS
 rintro(h|h|h|h|h|h)
 any_goals omega
 exact h5 h
structure Vb where
 kind:Int
 seg:Int
 idx:Int
theorem lN {a b:Vb} (h1:a.kind=b.kind) (h2:a.seg=b.seg) (h3:a.idx=b.idx):a=b:=by
 cases a;cases b;cases h1;cases h2;cases h3;rfl
instance decVb:DecidableEq Vb:=fun a b=>
 if h:a.kind=b.kind/\a.seg=b.seg/\a.idx=b.idx then isTrue (lN h.1 h.2.1 h.2.2) else isFalse (fun e=>h (by rw[e];exact⟨rfl,rfl,rfl⟩))
def cm:Vb:=⟨0,0,0⟩
def dJ (v:Vb):List AV:=[.int .i64 v.kind, .int .i64 v.seg, .int .i64 v.idx]
def ca (p:au) (q:aV):List Int:=if 0<q.start.length then q.start else p.initial
def gp (r:bp):Prop:=r.kind=1/\r.src<r.dst/\r.some_.length=0/\r.forall_.length=0
instance (r:bp):Decidable (gp r):=inferInstanceAs (Decidable (_/\_))
def io (p:au):Prop:=p.topology=1/\p.values.length=0/\∀j,j<p.rules.length->gp (p.rules.getD j ar)
instance (p:au):Decidable (io p):=inferInstanceAs (Decidable (_/\_))
def lO (p:au) (q:aV):Prop:=q.kind=2->∀j,j<p.rules.length->(p.rules.getD j ar).src∈q.goal->(p.rules.getD j ar).dst∈q.goal
instance (p:au) (q:aV):Decidable (lO p q):=inferInstanceAs (Decidable (_->_))
def rL (rs:List bp):Nat->Nat
 |0=>1
 |k+1=>rL rs k*(1+(rs.getD k ar).guards.length)
def ta (p:au) (q:aV):Nat:=if q.kind=2 then rL p.rules p.rules.length else 1
def cV (p:au) (q:aV):Int:=if aZ p q≠0 then aZ p q else if¬(io p/\lO p q) then 7 else if 64<ta p q then 4 else 0
theorem BV {rs:List bp} (h:∀j,j<rs.length->(rs.getD j ar).guards.length<=2):∀k,k<=rs.length->rL rs k<=3^k
 |0,_=>by simp[rL]
 |k+1,hk=>by
  have a:=BV h k (by omega)
  have b:=h k (by omega)
  rw[rL,Nat.pow_succ]
  exact Nat.mul_le_mul a (by omega)
def cM (n:Nat) (l:List Int):Prop:=∀i,i<l.length->(0<=l.getD i 0/\l.getD i 0<n)/\l.getD i 0∉l.take i
instance (n:Nat) (l:List Int):Decidable (cM n l):=inferInstanceAs (Decidable (∀i,i<l.length->_))
theorem vi {l:List Int} (h:∀i,i<l.length->l.getD i 0∉l.take i):l.Nodup:=by
 rw[List.nodup_iff_pairwise_ne,List.pairwise_iff_getElem]
 intro i j hi hj hij e
 have:=h j hj
 rw[ay 0 hj,<-e] at this
 exact this (List.mem_take_iff_getElem.2 ⟨i,by omega,rfl⟩)
theorem nA:∀{n:Nat} {l:List Int},l.Nodup->(∀x∈l,0<=x/\x<n)->l.length<=n
 |0,l,_,hb=>by
  cases l with
  |nil=>simp
  |cons a l=>have:=hb a (by simp);omega
 |n+1,l,hn,hb=>by
  have h1:(l.erase (n:Int)).length<=n:=nA (hn.erase _) fun x hx=>by
   have a:=hb x (List.mem_of_mem_erase hx)
   have b:x≠n:=fun e=>by subst e;exact(List.Nodup.not_mem_erase hn) hx
   omega
  have h2:l.length<=(l.erase (n:Int)).length+1:=by
   rw[List.length_erase];split<;>omega
  omega
theorem rM {n:Nat} {l:List Int} (h:cM n l):l.Nodup:=vi fun i hi=>(h i hi).2
theorem cH {n:Nat} {l:List Int} (h:cM n l):l.length<=n:=nA (rM h) fun x hx=>by
 obtain⟨i,hi,e⟩:=List.getElem_of_mem hx
 have:=(h i hi).1
 rwa [ay 0 hi,e] at this
def tb (k:Nat):Nat->List Int->List (List Int)
 |0,at_=>[at_]
 |m+1,at_=>at_::(List.range k).flatMap fun i:Nat=>if(i:Int)∈at_ then[] else tb k m (at_++[(i:Int)])
def tc (p:au):List (List Int):=tb (aA p.rules).length (aA p.rules).length []
def qQ (rs:List bp) (number:Nat):Nat->Nat
 |0=>number
 |m+1=>qQ rs number m / (1+(rs.getD (rs.length-1-m) ar).guards.length)
def w5 (rs:List bp) (number i:Nat):Nat:=qQ rs number (rs.length-1-i) % (1+(rs.getD i ar).guards.length)
def oe (p:au) (number:Nat):List Int:=(List.range p.rules.length).map fun i=>(w5 p.rules number i:Int)
theorem jI (p:au) (number:Nat):(oe p number).length=p.rules.length:=by simp[oe]
theorem oG {p:au} {number i:Nat} (h:i<p.rules.length):(oe p number).getD i 0=(w5 p.rules number i:Int):=by
 rw[oe,ay 0 (by simp;exact h)];simp
theorem w6 (rs:List bp) (number i:Nat):w5 rs number i<=(rs.getD i ar).guards.length:=by
 have:=Nat.mod_lt (qQ rs number (rs.length-1-i)) (show 0<1+(rs.getD i ar).guards.length by omega)
 unfold w5;omega
def gq (p:au):Prop:=p.fault=1\/p.fault=2
instance (p:au):Decidable (gq p):=inferInstanceAs (Decidable (_\/_))
def BW (T:List eg) (sch:List Int) (j:Nat) (r:bp):Prop:=∀g∈r.guards,∃i,i<j/\T.getD (sch.getD i 0).toNat aE=g
instance (T:List eg) (sch:List Int) (j:Nat) (r:bp):Decidable (BW T sch j r):=inferInstanceAs (Decidable (∀g∈r.guards,_))
def qR (p:au) (sch:List Int) (j r:Nat):List Vb:=if BW (aA p.rules) sch j (p.rules.getD r ar) then(if gq p then[⟨5,j,r⟩,⟨6,j,r⟩] else[⟨5,j,r⟩]) else[]
def bX (p:au) (sch:List Int) (j k:Nat):List Vb:=(List.range k).flatMap (qR p sch j)
def qD (p:au) (q:aV):List Vb:=(ca p q).map (fun x=>⟨3,0,x⟩)++(if gq p then p.initial.map (fun x=>(⟨4,0,x⟩:Vb)) else[])
def ao (p:au) (q:aV) (sch:List Int):List Vb:=[⟨0,0,0⟩,⟨1,0,0⟩,⟨2,0,0⟩]++qD p q++(List.range (sch.length+1)).flatMap fun j=>bX p sch j p.rules.length
theorem dp (p:au) (sch:List Int) (j k:Nat):bX p sch j (k+1)=bX p sch j k++qR p sch j k:=by simp[bX,List.range_succ,List.flatMap_append]
theorem EW (p:au) (sch:List Int) (j r:Nat):(qR p sch j r).length<=2:=by unfold qR;split<;>(try split)<;>simp
theorem jf (p:au) (sch:List Int) (j:Nat):∀k,(bX p sch j k).length<=2*k
 |0=>by simp[bX]
 |k+1=>by rw[dp,List.length_append];have:=jf p sch j k;have:=EW p sch j k;omega
theorem p5 (p:au) (sch:List Int) (m:Nat):∀k,((List.range k).flatMap fun j=>bX p sch j m).length<=2*m*k
 |0=>by simp
 |k+1=>by
  rw[List.range_succ,List.flatMap_append,List.length_append]
  have a:=p5 p sch m k
  have b:=jf p sch k m
  simp only[List.flatMap_cons,List.flatMap_nil,List.append_nil]
  rw[Nat.mul_add,Nat.mul_one]
  omega
theorem eX {p:au} {sch:List Int} {j r:Nat} {v:Vb} (h:v∈qR p sch j r):(v.kind=5\/v.kind=6/\gq p)/\v.seg=j/\v.idx=r/\BW (aA p.rules) sch j (p.rules.getD r ar):=by
 unfold qR at h
 split at h
 ·rename_i ha
  split at h
  ·rename_i hw
   simp only[List.mem_cons,List.not_mem_nil,or_false] at h
   rcases h with rfl|rfl
   ·exact⟨.inl rfl,rfl,rfl,ha⟩
   ·exact⟨.inr ⟨rfl,hw⟩,rfl,rfl,ha⟩
  ·simp only[List.mem_cons,List.not_mem_nil,or_false] at h
   subst h
   exact⟨.inl rfl,rfl,rfl,ha⟩
 ·simp at h
theorem zI (p:au) (sch:List Int) (j r:Nat):(qR p sch j r).Nodup:=by
 unfold qR
 split
 ·split
  ·simp
  ·simp
 ·simp
theorem dK {p:au} {sch:List Int} {j k:Nat} {v:Vb} (h:v∈bX p sch j k):∃r,r<k/\v∈qR p sch j r:=by
 unfold bX at h
 obtain⟨r,hr,hv⟩:=List.mem_flatMap.1 h
 exact⟨r,List.mem_range.1 hr,hv⟩
theorem p6 (p:au) (sch:List Int) (j:Nat):∀k,(bX p sch j k).Nodup
 |0=>by simp[bX]
 |k+1=>by
  rw[dp,List.nodup_append]
  refine⟨p6 p sch j k,zI p sch j k,fun a ha b hb e=>?_⟩
  obtain⟨r,hr,ha⟩:=dK ha
  have:=(eX ha).2.2.1
  have:=(eX hb).2.2.1
  subst e
  omega
theorem p7 (p:au) (sch:List Int) (m:Nat):∀k,((List.range k).flatMap fun j=>bX p sch j m).Nodup
 |0=>by simp
 |k+1=>by
  rw[List.range_succ,List.flatMap_append,List.nodup_append]
  simp only[List.flatMap_cons,List.flatMap_nil,List.append_nil]
  refine⟨p7 p sch m k,p6 p sch k m,fun a ha b hb e=>?_⟩
  obtain⟨j,hj,ha⟩:=List.mem_flatMap.1 ha
  have hj:=List.mem_range.1 hj
  obtain⟨r,_,ha⟩:=dK ha
  obtain⟨r',_,hb⟩:=dK hb
  have:=(eX ha).2.1
  have:=(eX hb).2.1
  subst e
  omega
theorem nB {l:List Int} {n:Int} (h:bQ l n=0):l.Nodup:=by
 obtain⟨_,h2⟩:=mC h
 have key:∀(k i:Nat),i<k->k<l.length->l.getD i 0<l.getD k 0:=by
  intro k
  induction k with
  |zero=>intro i hi;omega
  |succ k ih=>
   intro i hi hk
   have h1:=h2 (k+1) hk (by omega)
   rw[Nat.add_sub_cancel] at h1
   by_cases e:i=k
   ·subst e;exact h1
   ·have:=ih i (by omega) (by omega);omega
 rw[List.nodup_iff_pairwise_ne,List.pairwise_iff_getElem]
 intro i j hi hj hij e
 have:=key j i hij hj
 rw[ay 0 hi,ay 0 hj,e] at this
 omega
theorem rN {l:List Int} {f:Int->Vb} (h:l.Nodup) (hf:∀a b,f a=f b->a=b):(l.map f).Nodup:=by
 rw[List.nodup_iff_pairwise_ne] at*
 exact List.pairwise_map.2 (h.imp fun hab e=>hab (hf _ _ e))
theorem dL {p:au} {q:aV} (h:aZ p q=0) (sch:List Int):(ao p q sch).Nodup:=by
 have v:=aQ h
 have hs:(ca p q).Nodup:=by
  unfold ca;split
  ·exact nB v.start
  ·exact nB (aK v.vld).ini.1
 have hst:(qD p q).Nodup:=by
  unfold qD
  rw[List.nodup_append]
  refine⟨rN hs fun a b e=>by injection e,?_,fun a ha b hb e=>?_⟩
  ·split
   ·exact rN (nB (aK v.vld).ini.1) fun a b e=>by injection e
   ·simp
  ·obtain⟨x,_,rfl⟩:=List.mem_map.1 ha
   split at hb
   ·obtain⟨y,_,rfl⟩:=List.mem_map.1 hb
    injection e with e1
    omega
   ·simp at hb
 have hk:∀a∈qD p q,a.kind=3\/a.kind=4:=by
  intro a ha
  unfold qD at ha
  rcases List.mem_append.1 ha with ha|ha
  ·obtain⟨x,_,rfl⟩:=List.mem_map.1 ha;exact .inl rfl
  ·split at ha
   ·obtain⟨x,_,rfl⟩:=List.mem_map.1 ha;exact .inr rfl
   ·simp at ha
 have hk2:∀a∈((List.range (sch.length+1)).flatMap fun j=>bX p sch j p.rules.length),a.kind=5\/a.kind=6:=by
  intro a ha
  obtain⟨j,_,ha⟩:=List.mem_flatMap.1 ha
  obtain⟨r,_,ha⟩:=dK ha
  have:=(eX ha).1
  omega
 unfold ao
 rw[List.nodup_append,List.nodup_append]
 refine⟨⟨by simp,hst,fun a ha b hb e=>?_⟩,p7 p sch _ _,fun a ha b hb e=>?_⟩
 ·subst e
  have:=hk a hb
  simp only[List.mem_cons,List.not_mem_nil,or_false] at ha
  rcases ha with rfl|rfl|rfl<;>simp at this
 ·subst e
  have h2:=hk2 a hb
  rcases List.mem_append.1 ha with ha|ha
  ·simp only[List.mem_cons,List.not_mem_nil,or_false] at ha
   rcases ha with rfl|rfl|rfl<;>simp at h2
  ·have:=hk a ha;omega
theorem EX {p:au} {q:aV} (h:aZ p q=0):(qD p q).length<=12:=by
 have v:=aQ h
 have w:=aK v.vld
 have a:=bq v.start
 have b:=bq w.ini.1
 have c:=w.len
 unfold qD ca
 rw[List.length_append,List.length_map]
 split<;>split<;>simp<;>omega
theorem dM {p:au} {q:aV} (h:aZ p q=0) {sch:List Int} (hs:cM (aA p.rules).length sch):(ao p q sch).length<=79:=by
 have w:=aK (aQ h).vld
 have a:=EX h
 have b:=p5 p sch p.rules.length (sch.length+1)
 have c:=cH hs
 have d:=w.thr
 have e:=w.len
 have f:2*p.rules.length*(sch.length+1)<=16*4:=Nat.mul_le_mul (by omega) (by omega)
 unfold ao
 rw[List.length_append,List.length_append]
 simp only[List.length_cons,List.length_nil]
 omega
abbrev Co:=Vb->Int
def zC:Co:=fun _=>0
def d6 (c:Co) (v0:Vb) (k:Int):Co:=fun v=>if v=v0 then c v+k else c v
theorem k7 (c:Co) (v:Vb) (k:Int):d6 c v k v=c v+k:=by simp[d6]
theorem mD (c:Co) {v v0:Vb} (k:Int) (h:v≠v0):d6 c v0 k v=c v:=by simp[d6,h]
theorem b9 (c:Co) {vars:List Vb} {m:Nat} (hm:m<vars.length):(vars.map c).getD m 0=c (vars.getD m cm):=by
 rw[ay 0 (by simpa using hm),ay cm hm,List.getElem_map]
theorem BX (c:Co) {vars:List Vb} {v0:Vb} (k:Int) (h:v0∉vars):vars.map (d6 c v0 k)=vars.map c:=
 List.map_congr_left fun v hv=>mD c k fun e=>h (e▸hv)
theorem EY (c:Co) {vars:List Vb} {m:Nat} (k:Int) (hn:vars.Nodup) (hm:m<vars.length):(vars.map c).set m (c (vars.getD m cm)+k)=vars.map (d6 c (vars.getD m cm) k):=by
 generalize e0:vars.getD m cm=v0
 have e0:vars[m]=v0:=by rw[<-e0,ay cm hm]
 apply List.ext_getElem
 ·simp
 ·intro i h1 h2
  rw[List.getElem_set,List.getElem_map]
  by_cases e:m=i
  ·subst e;rw[if_pos rfl,List.getElem_map,e0,k7]
  ·rw[if_neg e,List.getElem_map,mD]
   exact fun e2=>e ((List.getElem_inj hn).1 (e0.trans e2.symm))
noncomputable def kG (vars:List Vb) (kind:Int):Nat->Int×Int->Option Int
 |0=>fun _=>none
 |n+1=>if(vars.getD n cm).kind=kind then sv (kG vars kind n) ((vars.getD n cm).seg,(vars.getD n cm).idx) (n:Int) else kG vars kind n
theorem jg {vars:List Vb} {kind s i:Int}:∀{n:Nat} {j:Int},kG vars kind n (s,i)=some j->∃m:Nat,j=m/\m<n/\vars.getD m cm=⟨kind,s,i⟩
 |0,j,h=>by cases h
 |n+1,j,h=>by
  rw[kG] at h
  split at h
  ·rename_i hk
   by_cases e:(s,i)=((vars.getD n cm).seg,(vars.getD n cm).idx)
   ·rw[e,i6] at h
    cases h
    injection e with e1 e2
    exact⟨n,rfl,by omega,lN hk e1.symm e2.symm⟩
   ·rw[kS _ _ e] at h
    obtain⟨m,a,b,c⟩:=jg h
    exact⟨m,a,by omega,c⟩
  ·obtain⟨m,a,b,c⟩:=jg h
   exact⟨m,a,by omega,c⟩
theorem p8 {vars:List Vb} {kind s i:Int}:∀{n:Nat},kG vars kind n (s,i)=none->∀m,m<n->vars.getD m cm≠⟨kind,s,i⟩
 |0,_,m,hm=>by omega
 |n+1,h,m,hm=>by
  rw[kG] at h
  by_cases e:m=n
  ·subst e
   intro e2
   rw[e2,if_pos rfl,i6] at h
   cases h
  ·split at h
   ·rename_i hk
    by_cases e:(s,i)=((vars.getD n cm).seg,(vars.getD n cm).idx)
    ·rw[e,i6] at h;cases h
    ·rw[kS _ _ e] at h
     exact p8 h m (by omega)
   ·exact p8 h m (by omega)
theorem rO {vars:List Vb} {kind s i:Int} (h:kG vars kind vars.length (s,i)=none):(⟨kind,s,i⟩:Vb)∉vars:=by
 intro hm
 obtain⟨m,hm,e⟩:=List.getElem_of_mem hm
 exact p8 h m hm (by rw[ay cm hm,e])
def bf (l:g7):Co:=fun v=>if v=⟨0,0,0⟩ then l.n else if v=⟨1,0,0⟩ then l.t else if v=⟨2,0,0⟩ then l.f else 0
def ba (c:Co) (k:Int) (d:Co):Co:=fun v=>c v+k*d v
def fK (n:Nat) (fire:Int) (j i:Nat) (v:Vb):Prop:=v.kind=fire/\0<=v.seg/\0<=v.idx/\(v.seg<j/\v.idx<n\/v.seg=j/\v.idx<i)
instance (n:Nat) (fire:Int) (j i:Nat) (v:Vb):Decidable (fK n fire j i v):=inferInstanceAs (Decidable (_/\_))
def It (rs:List bp) (state:Int) (v:Vb):Int:=(if(rs.getD v.idx.toNat ar).dst=state then 1 else 0)-(if(rs.getD v.idx.toNat ar).src=state then 1 else 0)
def cW (rs:List bp) (start fire state:Int) (j i:Nat):Co:=fun v=>(if v=⟨start,0,state⟩ then 1 else 0)+if fK rs.length fire j i v then It rs state v else 0
def cX (rs:List bp) (fire message:Int) (j i:Nat):Co:=fun v=>if fK rs.length fire j i v/\message∈(rs.getD v.idx.toNat ar).send then 1 else 0
theorem mE (n:Nat) (fire:Int) (j i:Nat) (v:Vb):fK n fire j (i+1) v↔fK n fire j i v\/v=⟨fire,j,i⟩:=by
 unfold fK
 constructor
 ·rintro⟨h1,h2,h3,h4⟩
  by_cases e:v.seg=j/\v.idx=i
  ·exact .inr (lN h1 e.1 e.2)
  ·exact .inl ⟨h1,h2,h3,by omega⟩
 ·rintro(⟨h1,h2,h3,h4⟩|rfl)
  ·exact⟨h1,h2,h3,by omega⟩
  ·refine⟨rfl,?_,?_,?_⟩<;>dsimp only<;>omega
theorem td (n:Nat) (fire:Int) (j i:Nat):¬fK n fire j i ⟨fire,j,i⟩:=by unfold fK;dsimp only;omega
theorem yh (n:Nat) (fire:Int) (j:Nat) (v:Vb):fK n fire j n v↔fK n fire (j+1) 0 v:=by unfold fK;omega
theorem EZ (rs:List bp) (start fire state:Int) (j:Nat):cW rs start fire state j rs.length=cW rs start fire state (j+1) 0:=by
 funext v;unfold cW;simp only[yh]
theorem E0 (rs:List bp) (fire message:Int) (j:Nat):cX rs fire message j rs.length=cX rs fire message (j+1) 0:=by
 funext v;unfold cX;simp only[yh]
theorem BZ (rs:List bp) (start fire state:Int) (j i:Nat) (v:Vb):-1<=cW rs start fire state j i v/\cW rs start fire state j i v<=2:=by
 unfold cW It
 (repeat' split)<;>omega
theorem rP (rs:List bp) (fire message:Int) (j i:Nat) (v:Vb):0<=cX rs fire message j i v/\cX rs fire message j i v<=1:=by
 unfold cX
 split<;>omega
theorem B3 (rs:List bp) (fire message:Int) (j i:Nat) (c:Co) (k:Int):ba c k (cX rs fire message j (i+1))=if message∈(rs.getD i ar).send then d6 (ba c k (cX rs fire message j i)) ⟨fire,j,i⟩ k else ba c k (cX rs fire message j i):=by
 funext v
 by_cases e:v=⟨fire,j,i⟩
 ·subst e
  by_cases hm:message∈(rs.getD i ar).send
  ·rw[if_pos hm,k7]
   unfold ba cX
   rw[if_pos ⟨(mE _ _ _ _ _).2 (.inr rfl),by simpa using hm⟩,if_neg (fun h=>td _ _ _ _ h.1)]
   omega
  ·rw[if_neg hm]
   unfold ba cX
   rw[if_neg (fun h=>hm (by simpa using h.2)),if_neg (fun h=>td _ _ _ _ h.1)]
 ·have a:fK rs.length fire j (i+1) v↔fK rs.length fire j i v:=by rw[mE];simp[e]
  have b:ba c k (cX rs fire message j (i+1)) v=ba c k (cX rs fire message j i) v:=by unfold ba cX;simp only[a]
  rw[b]
  split
  ·rw[mD _ _ e]
  ·rfl
def B4 (rs:List bp) (c:Co) (k state fire:Int) (j i:Nat):Co:=
 let c1:=if(rs.getD i ar).dst=state then d6 c ⟨fire,j,i⟩ k else c
 if(rs.getD i ar).src=state then d6 c1 ⟨fire,j,i⟩ (-k) else c1
theorem B5 (rs:List bp) (start fire state:Int) (j i:Nat) (c:Co) (k:Int):ba c k (cW rs start fire state j (i+1))=B4 rs (ba c k (cW rs start fire state j i)) k state fire j i:=by
 funext v
 unfold B4
 by_cases e:v=⟨fire,j,i⟩
 ·subst e
  have h1:=(mE rs.length fire j i ⟨fire,j,i⟩).2 (.inr rfl)
  have h2:=td rs.length fire j i
  have e2:(⟨fire,j,i⟩:Vb).idx.toNat=i:=by simp
  have key:ba c k (cW rs start fire state j (i+1)) ⟨fire,j,i⟩=ba c k (cW rs start fire state j i) ⟨fire,j,i⟩+k*It rs state ⟨fire,j,i⟩:=by
   unfold ba cW
   rw[if_pos h1,if_neg h2,Int.mul_add,Int.mul_add]
   omega
  rw[key]
  unfold It
  rw[e2]
  by_cases hd:(rs.getD i ar).dst=state<;>by_cases hs:(rs.getD i ar).src=state<;>simp only[hd,hs,if_pos,if_neg,if_true,if_false,k7,not_false_eq_true]<;>omega
 ·have a:fK rs.length fire j (i+1) v↔fK rs.length fire j i v:=by rw[mE];simp[e]
  have b:ba c k (cW rs start fire state j (i+1)) v=ba c k (cW rs start fire state j i) v:=by unfold ba cW;simp only[a]
  rw[b]
  split<;>split<;>simp only[mD _ _ e]
theorem E4 (c:Co) (k:Int) (l:g7):d6 (d6 (d6 c ⟨0,0,0⟩ (k*l.n)) ⟨1,0,0⟩ (k*l.t)) ⟨2,0,0⟩ (k*l.f)=ba c k (bf l):=by
 funext v
 unfold d6 ba bf
 by_cases h0:v=⟨0,0,0⟩
 ·subst h0;simp
 ·by_cases h1:v=⟨1,0,0⟩
  ·subst h1;simp
  ·by_cases h2:v=⟨2,0,0⟩
   ·subst h2;simp
   ·simp[h0,h1,h2]
def oq (kind:Int) (n:Nat):Co:=fun v=>if v.kind=kind/\v.seg=0/\0<=v.idx/\v.idx<n then 1 else 0
theorem E7 (kind:Int) (n:Nat) (c:Co) (k:Int):ba c k (oq kind (n+1))=d6 (ba c k (oq kind n)) ⟨kind,0,n⟩ k:=by
 funext v
 by_cases e:v=⟨kind,0,n⟩
 ·subst e
  rw[k7]
  unfold ba oq
  rw[if_pos ⟨rfl,rfl,by dsimp only;omega,by dsimp only;omega⟩,if_neg (by dsimp only;omega)]
  omega
 ·rw[mD _ _ e]
  unfold ba oq
  have h:(v.kind=kind/\v.seg=0/\0<=v.idx/\v.idx<(n+1:Nat))↔(v.kind=kind/\v.seg=0/\0<=v.idx/\v.idx<n):=by
   constructor
   ·intro h
    have:v.idx≠n:=fun h2=>e (lN h.1 h.2.1 h2)
    omega
   ·intro h;omega
  simp only[h]
abbrev Rw:=Co×Int
def aN (vars:List Vb) (r:Rw):cK:=⟨vars.map r.1,r.2⟩
def lP (l:g7):Rw:=(bf l,l.c)
def fh (kind:Int) (n:Nat) (k:Int) (l:g7):Rw:=(ba (ba zC k (oq kind n)) (-k) (bf l),-k*l.c)
def nC (p:au) (g:eg) (j:Nat):Rw:=
 let c1:=ba (ba zC g.coef (cX p.rules 5 g.message j 0)) g.coef (cX p.rules 6 g.message j 0)
 let c2:=if p.fault=3 then d6 c1 ⟨2,0,0⟩ g.coef else c1
 (ba c2 (-1) (bf g.bound),-g.bound.c)
def qS (p:au) (start fire:Int) (x j:Nat):Rw:=(ba zC 1 (cW p.rules start fire x (j+1) 0),0)
def qT (p:au) (seg:Nat) (states:List Int) (least:Int):Rw:=(states.foldl (fun c x=>ba c 1 (cW p.rules 3 5 x (seg+1) 0)) zC,-least)
def ot (p:au) (seg:Nat) (r:bp) (ch:Int):Rw:=
 if ch=0 then(ba zC (-1) (cW p.rules 3 5 r.src (seg+1) 0),0)
 else
  let g:=r.guards.getD (ch-1).toNat aE
  let c1:=ba zC (-g.coef) (cX p.rules 5 g.message (seg+1) 0)
  let c2:=if p.fault=1 then ba c1 (-g.coef) (cX p.rules 6 g.message (seg+1) 0) else c1
  (ba c2 1 (bf g.bound),g.bound.c-1)
def fi (p:au):List g7:=[⟨-1,1,0,0⟩,⟨0,1,-1,0⟩,⟨0,1,0,-1⟩]++(if p.fault=0 then[⟨0,0,-1,0⟩,⟨0,0,0,-1⟩] else[])++p.resilience
def jh (p:au):List Rw:=[fh 3 p.states.length 1 ⟨0,1,0,-1⟩,fh 3 p.states.length (-1) ⟨0,1,0,-1⟩]++if gq p then[fh 4 p.states.length 1 ⟨0,0,0,1⟩,fh 4 p.states.length (-1) ⟨0,0,0,1⟩] else[]
def jX (p:au) (sch:List Int) (j:Nat):List Rw:=
 (if 0<j then[nC p ((aA p.rules).getD (sch.getD (j-1) 0).toNat aE) j] else[])++((List.range p.states.length).map fun x=>qS p 3 5 x j)++(if gq p then(List.range p.states.length).map fun x=>qS p 4 6 x j else[])
def w7 (p:au) (q:aV):List Int:=((List.range p.states.length).map fun x:Nat=>(x:Int)).filter fun x=>decide (x∉q.goal)
def lQ (p:au) (q:aV) (seg number:Nat):List Rw:=
 if q.kind=1 then q.bad.map fun c=>qT p seg c.states c.least
 else qT p seg (w7 p q) 1::(List.range p.rules.length).map fun i=>ot p seg (p.rules.getD i ar) ((oe p number).getD i 0)
def ip (p:au) (q:aV) (sch:List Int) (number:Int):List Rw:=
 (fi p).map lP++jh p++((List.range (sch.length+1)).flatMap (jX p sch))++if 0<=number then lQ p q sch.length number.toNat else[]
def dq (p:au) (q:aV) (sch:List Int) (number:Int):List cK:=(ip p q sch number).map (aN (ao p q sch))
def E8 (p:au) (sch:List Int) (v:Vb):Prop:=
 (v=⟨0,0,0⟩\/v=⟨1,0,0⟩\/v=⟨2,0,0⟩)\/((v.kind=3\/v.kind=4/\gq p)/\v.seg=0/\0<=v.idx/\v.idx<p.states.length)\/
 ((v.kind=5\/v.kind=6/\gq p)/\(0<=v.seg/\v.seg<=sch.length)/\0<=v.idx/\v.idx<p.rules.length)
theorem p9 {l:List Int} {n:Int} (h:bQ l n=0):∀x∈l,0<=x/\x<n:=by
 intro x hx
 obtain⟨i,hi,e⟩:=List.getElem_of_mem hx
 have:=(mC h).1 i hi
 rwa [ay 0 hi,e] at this
theorem Ga {p:au} {q:aV} (h:aZ p q=0):∀x∈ca p q,0<=x/\x<p.states.length:=by
 have v:=aQ h
 unfold ca
 split
 ·exact p9 v.start
 ·exact p9 (aK v.vld).ini.1
theorem cN {p:au} {q:aV} {sch:List Int} (h:aZ p q=0) {v:Vb} (hv:v∈ao p q sch):E8 p sch v:=by
 unfold ao at hv
 rcases List.mem_append.1 hv with hv|hv
 ·rcases List.mem_append.1 hv with hv|hv
  ·simp only[List.mem_cons,List.not_mem_nil,or_false] at hv
   exact .inl hv
  ·right;left
   unfold qD at hv
   rcases List.mem_append.1 hv with hv|hv
   ·obtain⟨x,hx,rfl⟩:=List.mem_map.1 hv
    exact⟨.inl rfl,rfl,Ga h x hx⟩
   ·split at hv
    ·rename_i hw
     obtain⟨x,hx,rfl⟩:=List.mem_map.1 hv
     exact⟨.inr ⟨rfl,hw⟩,rfl,p9 (aK (aQ h).vld).ini.1 x hx⟩
    ·simp at hv
 ·right;right
  obtain⟨j,hj,hv⟩:=List.mem_flatMap.1 hv
  have hj:=List.mem_range.1 hj
  obtain⟨r,hr,hv⟩:=dK hv
  obtain⟨a,b,c,_⟩:=eX hv
  exact⟨a,by omega,by omega⟩
def br (rs:List bp) (start fire state:Int) (seg:Nat):Co:=fun v=>
 if v.kind=fire/\v.seg<=seg/\(rs.getD v.idx.toNat ar).src=state then -1
 else if v.kind=fire/\v.seg<=seg/\(rs.getD v.idx.toNat ar).dst=state then 1
 else if v.kind=start/\v.idx=state then 1 else 0
def bn (rs:List bp) (fire message:Int) (seg:Nat):Co:=fun v=>if v.kind=fire/\v.seg<seg/\message∈(rs.getD v.idx.toNat ar).send then 1 else 0
def jU (kind:Int):Co:=fun v=>if v.kind=kind then 1 else 0
section
variable {p:au} {sch:List Int} {v:Vb}
theorem qa (ht:io p) (hk:E8 p sch v) {start fire state:Int} {seg:Nat} (hs:start=3/\fire=5\/start=4/\fire=6):br p.rules start fire state seg v=cW p.rules start fire state (seg+1) 0 v:=by
 have hv:v=⟨start,0,state⟩↔v.kind=start/\v.seg=0/\v.idx=state:=⟨fun e=>by subst e;exact⟨rfl,rfl,rfl⟩,fun e=>lN e.1 e.2.1 e.2.2⟩
 unfold br cW It
 by_cases hf:v.kind=fire
 ·have hne:¬v=⟨start,0,state⟩:=fun e=>by have:=hv.1 e;omega
  rw[if_neg hne]
  have h5:(0<=v.seg/\v.seg<=sch.length)/\0<=v.idx/\v.idx<p.rules.length:=by
   rcases hk with (rfl|rfl|rfl)|hk|hk
   ·dsimp only at hf;omega
   ·dsimp only at hf;omega
   ·dsimp only at hf;omega
   ·omega
   ·exact hk.2
  have hrise:=(ht.2.2 v.idx.toNat (by omega)).2.1
  by_cases hseg:v.seg<=seg
  ·rw[if_pos (show fK p.rules.length fire (seg+1) 0 v from⟨hf,by omega,by omega,by omega⟩)]
   by_cases h1:(p.rules.getD v.idx.toNat ar).src=state
   ·rw[if_pos ⟨hf,hseg,h1⟩,if_pos h1,if_neg (by omega)];rfl
   ·rw[if_neg (fun h=>h1 h.2.2),if_neg h1]
    by_cases h2:(p.rules.getD v.idx.toNat ar).dst=state
    ·rw[if_pos ⟨hf,hseg,h2⟩,if_pos h2];rfl
    ·rw[if_neg (fun h=>h2 h.2.2),if_neg h2,if_neg (by omega)];rfl
  ·rw[if_neg (fun h=>hseg h.2.1),if_neg (fun h=>hseg h.2.1),if_neg (by omega),if_neg (fun h:fK p.rules.length fire (seg+1) 0 v=>by unfold fK at h;omega)]
   rfl
 ·rw[if_neg (fun h=>hf h.1),if_neg (fun h=>hf h.1),if_neg (fun h:fK p.rules.length fire (seg+1) 0 v=>hf h.1)]
  by_cases h1:v.kind=start
  ·have h0:v.seg=0:=by
    rcases hk with (rfl|rfl|rfl)|hk|hk
    ·rfl
    ·rfl
    ·rfl
    ·exact hk.2.1
    ·omega
   by_cases h2:v.idx=state
   ·rw[if_pos ⟨h1,h2⟩,if_pos (hv.2 ⟨h1,h0,h2⟩)];rfl
   ·rw[if_neg (fun h=>h2 h.2),if_neg (fun h=>h2 (hv.1 h).2.2)];rfl
  ·rw[if_neg (fun h=>h1 h.1),if_neg (fun h=>h1 (hv.1 h).1)];rfl
theorem kH (hk:E8 p sch v) {fire message:Int} {seg:Nat} (hs:fire=5\/fire=6):bn p.rules fire message seg v=cX p.rules fire message seg 0 v:=by
 unfold bn cX
 have:(v.kind=fire/\v.seg<seg/\message∈(p.rules.getD v.idx.toNat ar).send)↔(fK p.rules.length fire seg 0 v/\message∈(p.rules.getD v.idx.toNat ar).send):=by
  unfold fK
  constructor
  ·rintro⟨h1,h2,h3⟩
   rcases hk with (rfl|rfl|rfl)|hk|hk
   ·dsimp only at h1;omega
   ·dsimp only at h1;omega
   ·dsimp only at h1;omega
   ·omega
   ·exact⟨⟨h1,hk.2.1.1,hk.2.2.1, .inl ⟨h2,hk.2.2.2⟩⟩,h3⟩
  ·rintro⟨⟨h1,h2,h3,h4⟩,h5⟩
   exact⟨h1,by omega,h5⟩
 simp only[this]
theorem yi (hk:E8 p sch v) {kind:Int} (hs:kind=3\/kind=4):jU kind v=oq kind p.states.length v:=by
 unfold jU oq
 have:v.kind=kind↔(v.kind=kind/\v.seg=0/\0<=v.idx/\v.idx<p.states.length):=by
  refine⟨fun h=>?_,fun h=>h.1⟩
  rcases hk with (rfl|rfl|rfl)|hk|hk
  ·dsimp only at h;omega
  ·dsimp only at h;omega
  ·dsimp only at h;omega
  ·exact⟨h,hk.2⟩
  ·omega
 simp only[<-this]
end
theorem Kb (l:g7) (vs:List Vb) (h:∀v∈vs,v≠⟨0,0,0⟩/\v≠⟨1,0,0⟩/\v≠⟨2,0,0⟩):(([⟨0,0,0⟩,⟨1,0,0⟩,⟨2,0,0⟩]:List Vb)++vs).map (bf l)=[l.n,l.t,l.f]++List.replicate vs.length 0:=by
 rw[List.map_append]
 congr 1
 rw[List.eq_replicate_iff]
 refine⟨by simp,fun x hx=>?_⟩
 obtain⟨v,hv,rfl⟩:=List.mem_map.1 hx
 obtain⟨a,b,c⟩:=h v hv
 simp[bf,a,b,c]
theorem E9 {p:au} {q:aV} {sch:List Int} (h:aZ p q=0) (l:g7):(ao p q sch).map (bf l)=[l.n,l.t,l.f]++List.replicate ((ao p q sch).length-3) 0:=by
 have e:ao p q sch=[⟨0,0,0⟩,⟨1,0,0⟩,⟨2,0,0⟩]++(qD p q++(List.range (sch.length+1)).flatMap fun j=>bX p sch j p.rules.length):=by unfold ao;rw[List.append_assoc]
 have hn:=dL h sch
 rw[e] at hn⊢
 rw[Kb]
 ·rfl
 ·intro v hv
  rw[List.nodup_append] at hn
  have:=hn.2.2
  refine⟨fun e2=>?_,fun e2=>?_,fun e2=>?_⟩
  ·exact this ⟨0,0,0⟩ (by simp) v hv e2.symm
  ·exact this ⟨1,0,0⟩ (by simp) v hv e2.symm
  ·exact this ⟨2,0,0⟩ (by simp) v hv e2.symm
def jY (rs:List bp) (ns:Nat):List Int:=(List.range ns).flatMap fun x:Nat=>((List.range rs.length).filter fun r=>decide ((rs.getD r ar).src=(x:Int))).map fun r:Nat=>(r:Int)
end Go.Proofs.YtnjggjhkfncnlaaGreatDoor
namespace Go.Proofs.YtnjggjhkfncnlaaGreatDoor
set_option maxRecDepth 100000
section
variable (k:Int->Int)
def zJ (a b:Int):Prop:=k a<k b\/(k a=k b/\a<b)
def B6 (ns n:Nat):List Int:=(List.range ns).flatMap fun x:Nat=>((List.range n).filter fun r:Nat=>decide (k (r:Int)=(x:Int))).map fun r:Nat=>(r:Int)
end
section
variable {k:Int->Int}
theorem B7:∀{l m:List Int},l.Pairwise (zJ k)->m.Pairwise (zJ k)->(∀x,x∈l↔x∈m)->l=m
 |[],[],_,_,_=>rfl
 |[],b::m,_,_,h=>by have:=(h b).2 List.mem_cons_self;cases this
 |a::l,[],_,_,h=>by have:=(h a).1 List.mem_cons_self;cases this
 |a::l,b::m,h1,h2,h=>by
  rw[List.pairwise_cons] at h1 h2
  have e:a=b:=by
   rcases List.mem_cons.1 ((h a).1 List.mem_cons_self) with e|ha
   ·exact e
   ·rcases List.mem_cons.1 ((h b).2 List.mem_cons_self) with e|hb
    ·exact e.symm
    ·have x:=h2.1 a ha
     have y:=h1.1 b hb
     unfold zJ at x y
     omega
  subst e
  have irr:¬zJ k a a:=by unfold zJ;omega
  rw[B7 h1.2 h2.2 fun x=>⟨fun hx=>?_,fun hx=>?_⟩]
  ·rcases List.mem_cons.1 ((h x).1 (List.mem_cons_of_mem _ hx)) with rfl|hm
   ·exact absurd (h1.1 _ hx) irr
   ·exact hm
  ·rcases List.mem_cons.1 ((h x).2 (List.mem_cons_of_mem _ hx)) with rfl|hm
   ·exact absurd (h2.1 _ hx) irr
   ·exact hm
theorem B8 {ns n:Nat} (h:∀r:Nat,r<n->0<=k r/\k r<ns) (x:Int):x∈B6 k ns n↔∃r:Nat,r<n/\x=r:=by
 unfold B6
 simp only[List.mem_flatMap,List.mem_map,List.mem_filter,List.mem_range,decide_eq_true_eq]
 constructor
 ·rintro⟨_,_,r,⟨hr,_⟩,rfl⟩;exact⟨r,hr,rfl⟩
 ·rintro⟨r,hr,rfl⟩
  have:=h r hr
  exact⟨(k r).toNat,by omega,r,⟨hr,by omega⟩,rfl⟩
theorem E' (ns n:Nat):(B6 k ns n).Pairwise (zJ k):=by
 unfold B6
 rw[List.pairwise_flatMap]
 refine⟨fun x _=>?_,?_⟩
 ·rw[List.pairwise_map]
  have h0:(List.range n).Pairwise (·<·):=List.pairwise_lt_range
  refine(List.Pairwise.filter _ h0).imp_of_mem fun{a b} ha hb hab=>?_
  have ha:=(List.mem_filter.1 ha).2
  have hb:=(List.mem_filter.1 hb).2
  simp only[decide_eq_true_eq] at ha hb
  unfold zJ
  omega
 ·have h0:(List.range ns).Pairwise (·<·):=List.pairwise_lt_range
  refine h0.imp fun{a b} hab x hx y hy=>?_
  obtain⟨r,hr,rfl⟩:=List.mem_map.1 hx
  obtain⟨s,hs,rfl⟩:=List.mem_map.1 hy
  have hr:=(List.mem_filter.1 hr).2
  have hs:=(List.mem_filter.1 hs).2
  simp only[decide_eq_true_eq] at hr hs
  unfold zJ
  omega
structure yj (k:Int->Int) (i:Nat) (L:List Int):Prop where
 len:L.length=i
 pw:L.Pairwise (zJ k)
 mem:∀x,x∈L↔∃r:Nat,r<i/\x=r
theorem yj.one:yj k 1 [0]:=⟨rfl,by simp,fun x=>by
 rw[List.mem_singleton]
 exact⟨fun h=>⟨0,by omega,h⟩,fun⟨r,hr,h⟩=>by rw[h,show r=0 by omega];rfl⟩⟩
theorem yj.ext {n ns:Nat} {L:List Int} (h:yj k n L) (hk:∀r:Nat,r<n->0<=k r/\k r<ns):L=B6 k ns n:=
 B7 h.pw (E' ns n) fun x=>by rw[h.mem,B8 hk]
theorem yj.next {i j:Nat} {L:List Int} (h:yj k i L) (hj:j<=i) (h1:∀x∈L.drop j,k i<k x) (h2:j=0\/k (L.getD (j-1) 0)<=k i):yj k (i+1) (L.take j++[(i:Int)]++L.drop j):=by
 have hl:=h.len
 have hsplit:L.take j++L.drop j=L:=List.take_append_drop j L
 have hpw:(L.take j++L.drop j).Pairwise (zJ k):=by rw[hsplit];exact h.pw
 rw[List.pairwise_append] at hpw
 have hlow:∀x∈L.take j,zJ k x i:=by
  intro x hx
  have hxi:x<i:=by
   obtain⟨r,hr,rfl⟩:=(h.mem x).1 (List.mem_of_mem_take hx)
   omega
  obtain⟨a,ha,e⟩:=List.mem_take_iff_getElem.1 hx
  have hj0:j≠0:=by omega
  have h2:=h2.resolve_left hj0
  rw[ay 0 (by omega)] at h2
  have hle:k x<=k (L[j-1]'(by omega)):=by
   by_cases e2:a=j-1
   ·subst e2;rw[<-e];exact Int.le_refl _
   ·have:=List.pairwise_iff_getElem.1 h.pw a (j-1) (by omega) (by omega) (by omega)
    rw[e] at this
    unfold zJ at this
    omega
  unfold zJ
  omega
 refine⟨?_,?_,fun x=>?_⟩
 ·simp only[List.length_append,List.length_take,List.length_cons,List.length_nil,List.length_drop]
  omega
 ·rw[List.pairwise_append,List.pairwise_append]
  refine⟨⟨hpw.1,by simp,fun x hx y hy=>?_⟩,hpw.2.1,fun x hx y hy=>?_⟩
  ·rw[List.mem_singleton] at hy;subst hy;exact hlow x hx
  ·rcases List.mem_append.1 hx with hx|hx
   ·exact hpw.2.2 x hx y hy
   ·rw[List.mem_singleton] at hx;subst hx
    exact .inl (h1 y hy)
 ·rw[List.mem_append,List.mem_append,List.mem_singleton]
  have hm:(x∈L.take j\/x∈L.drop j)↔x∈L:=by rw[<-List.mem_append,hsplit]
  constructor
  ·rintro((hx|rfl)|hx)
   ·obtain⟨r,hr,e⟩:=(h.mem x).1 (hm.1 (.inl hx));exact⟨r,by omega,e⟩
   ·exact⟨i,by omega,rfl⟩
   ·obtain⟨r,hr,e⟩:=(h.mem x).1 (hm.1 (.inr hx));exact⟨r,by omega,e⟩
  ·rintro⟨r,hr,e⟩
   by_cases e2:r=i
   ·subst e2;exact .inl (.inr e)
   ·rcases hm.2 ((h.mem x).2 ⟨r,by omega,e⟩) with hx|hx
    ·exact .inl (.inl hx)
    ·exact .inr hx
def mF (L R:List Int) (i:Int) (j:Nat):List Int:=L.take j++[i]++L.drop j++R
theorem B9 {L R:List Int} {i:Int} {j:Nat} (hj:j<=L.length):(mF L R i j).length=L.length+1+R.length:=by
 unfold mF
 simp only[List.length_append,List.length_take,List.length_cons,List.length_nil,List.length_drop]
 omega
theorem Ca (L R:List Int) (i:Int):mF L R i L.length=L++i::R:=by
 unfold mF
 simp
theorem Fa {L R:List Int} {i:Int} {j:Nat} (hj:j<=L.length):(mF L R i j).getD j 0=i:=by
 unfold mF
 rw[List.append_assoc,List.append_assoc,gD,List.getElem?_append_right (by rw[List.length_take];omega)]
 simp[Nat.min_eq_left hj]
theorem w8 {L R:List Int} {i:Int} {j:Nat} (hj:j<L.length):(mF L R i (j+1)).getD j 0=L.getD j 0:=by
 unfold mF
 rw[List.append_assoc,List.append_assoc,gD,List.getElem?_append_left (by simp;omega),List.getElem?_take,if_pos (by omega),<-gD]
theorem zK {L R:List Int} {i:Int} {j:Nat} (hj:j<L.length):((mF L R i (j+1)).set (j+1) (L.getD j 0)).set j i=mF L R i j:=by
 have e1:L.take (j+1)=L.take j++[L.getD j 0]:=by
  rw[List.take_succ_eq_append_getElem hj,ay 0 hj]
 have e2:L.drop j=L.getD j 0::L.drop (j+1):=by
  rw[List.drop_eq_getElem_cons hj,ay 0 hj]
 unfold mF
 rw[e1,e2]
 generalize L.getD j 0=x
 have hl:(L.take j).length=j:=by rw[List.length_take];omega
 simp only[List.append_assoc,List.cons_append,List.nil_append]
 rw[List.set_append_right _ _ (by omega),hl,show j+1-j=1 by omega,List.set_append_right _ _ (by omega),hl,Nat.sub_self]
 rfl
end
end Go.Proofs.YtnjggjhkfncnlaaGreatDoor
