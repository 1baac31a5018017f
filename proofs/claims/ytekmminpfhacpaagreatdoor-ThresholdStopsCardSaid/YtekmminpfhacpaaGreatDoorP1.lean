import Derived.Test.YtekmminpfhacpaaGreatDoorM5
import Derived.Test.YtekmminpfhacpaaGreatDoorPlR
set_option linter.unusedVariables false
set_option linter.unusedSimpArgs false
namespace Go.Proofs.YtekmminpfhacpaaGreatDoor
section
set_option maxRecDepth 100000
set_option maxHeartbeats 8000000
theorem nc {l:List Int} {n:Int} (h:bw l n=0):iy l n/\uW l:=by
 unfold bw at h
 by_cases h1:iy l n
 ·rw[if_pos h1] at h
  by_cases h2:uW l
  ·exact⟨h1,h2⟩
  ·rw[if_neg h2] at h;omega
 ·rw[if_neg h1] at h;omega
theorem CU {l:List Int} {n:Int} (h:bw l n=0):∀k,k<l.length->(k:Int)<=l.getD k 0:=by
 obtain⟨h1,h2⟩:=nc h
 intro k
 induction k with
 |zero=>intro hk;exact(h1 0 hk).1
 |succ k ih=>
  intro hk
  have a:=ih (by omega)
  have b:=h2 (k+1) hk (by omega)
  rw[Nat.add_sub_cancel] at b
  omega
theorem bu {l:List Int} {n:Nat} (h:bw l n=0):l.length<=n:=by
 by_cases h0:l.length=0
 ·omega
 have a:=CU h (l.length-1) (by omega)
 have b:=(nc h).1 (l.length-1) (by omega)
 omega
structure IX (p:an):Prop where
 name:bU p.name
 top:1<=p.topology/\p.topology<=4/\0<=p.fault/\p.fault<=3
 len:0<p.states.length/\p.states.length<=6/\p.messages.length<=3/\p.values.length<=3/\p.resilience.length<=4/\p.rules.length<=8
 nms:mt (cZ p)
 shp:¬((p.topology≠1/\(0<p.messages.length\/0<p.values.length\/0<p.resilience.length\/p.fault≠0))\/(p.topology=1/\0<p.leader.length))
 res:mU p
 ini:bw p.initial p.states.length=0/\0<p.initial.length/\bw p.leader p.states.length=0
 rul:∀i,i<p.rules.length->b9 p i (p.rules.getD i aq)=0
 thr:(ar p.rules).length<=3
theorem bk {p:an} (h:aw p=0):IX p:=by
 unfold aw at h
 by_cases h1:¬bU p.name
 ·rw[if_pos h1] at h;omega
 rw[if_neg h1] at h
 by_cases h2:p.topology<1\/4<p.topology\/p.fault<0\/3<p.fault
 ·rw[if_pos h2] at h;omega
 rw[if_neg h2] at h
 by_cases h3:p.states.length=0
 ·rw[if_pos h3] at h;omega
 rw[if_neg h3] at h
 by_cases h4:6<p.states.length\/3<p.messages.length\/3<p.values.length\/4<p.resilience.length\/8<p.rules.length
 ·rw[if_pos h4] at h;omega
 rw[if_neg h4] at h
 by_cases h5:¬mt (cZ p)
 ·rw[if_pos h5] at h;omega
 rw[if_neg h5] at h
 by_cases h6:(p.topology≠1/\(0<p.messages.length\/0<p.values.length\/0<p.resilience.length\/p.fault≠0))\/(p.topology=1/\0<p.leader.length)
 ·rw[if_pos h6] at h;omega
 rw[if_neg h6] at h
 by_cases h7:¬mU p
 ·rw[if_pos h7] at h;omega
 rw[if_neg h7] at h
 have hz:=bM h
 have a1:=hz (if p.initial.length=0 then 1 else 0) (by simp)
 have a2:=hz (gj p) (by simp)
 have a3:=hz (if 3<(ar p.rules).length then 4 else 0) (by simp)
 refine⟨Classical.not_not.1 h1,by omega,by omega,Classical.not_not.1 h5,h6,Classical.not_not.1 h7,⟨hz _ (by simp),?_,hz _ (by simp)⟩,fun i hi=>?_,?_⟩
 ·split at a1<;>omega
 ·exact bM a2 _ (List.mem_map.2 ⟨i,List.mem_range.2 hi,rfl⟩)
 ·split at a3<;>omega
theorem E' {l:List Int} {n:Int} (h:gQ l n=0):(l.length:Int)=n:=by
 unfold gQ at h
 split at h<;>omega
theorem vd {p:an} {i:Nat} {r:bC} (hl:0<p.states.length/\p.states.length<=6/\p.messages.length<=3) (h:b9 p i r=0):¬lp r:=by
 obtain⟨h1,h2,h3,_,_,h6⟩:=gk h
 have hn:=h1.1.2
 unfold gu at h3
 unfold dV at h2
 unfold cu at h6
 unfold lp
 have hk:r.kind=1\/r.kind=2\/r.kind=3\/r.kind=4\/r.kind=5:=by omega
 rcases hk with k|k|k|k|k
 ·rw[if_pos k] at h6
  have hz:=bM h6
  have c1:=ox (hz (aZ p.messages.length r.guards) (by simp))
  have c2:=bu (hz (bw r.some_ p.states.length) (by simp))
  have c3:=bu (hz (bw r.forall_ p.states.length) (by simp))
  have c4:=bu (hz (bw r.send p.messages.length) (by simp))
  omega
 ·omega
 ·rw[if_neg (by omega),if_neg (by omega),if_pos k] at h6
  have c1:=E' (bM h6 (gQ r.response p.states.length) (by simp))
  omega
 ·rw[if_neg (by omega),if_neg (by omega),if_neg (by omega),if_pos k] at h6
  have hz:=bM h6
  have c1:=bu (hz (bw r.left p.states.length) (by simp))
  have c2:=bu (hz (bw r.right p.states.length) (by simp))
  have c3:=bu (hz (bw r.parent p.states.length) (by simp))
  omega
 ·omega
theorem xQ {p:an} (h:mt (cZ p)):¬lq p.states/\¬lq p.messages/\¬lq p.values:=by
 have key:∀s∈cZ p,s.size<=12:=by
  intro s hs
  obtain⟨j,hj,e⟩:=List.getElem_of_mem hs
  have:=(h j hj).1.1.2
  rwa [gD,gL hj,Option.getD_some,e] at this
 have go:∀l:List ByteArray,(∀s∈l,s∈cZ p)->¬lq l:=by
  rintro l hl ⟨j,hj,hlt⟩
  have:=key _ (hl _ (bi (l:=l) t0 hj))
  omega
 refine⟨go _ fun s hs=>?_,go _ fun s hs=>?_,go _ fun s hs=>?_⟩<;>simp[cZ,hs]
theorem dE {p:an} (h:aw p=0):¬cp p:=by
 have v:=bk h
 have h1:=v.name.1.2
 have h2:=bu v.ini.1
 have h3:=bu v.ini.2.2
 have h4:=v.len
 obtain⟨n1,n2,n3⟩:=xQ v.nms
 have h5:¬∃j,j<p.rules.length/\lp (p.rules.getD j aq):=fun⟨j,hj,hb⟩=>vd ⟨h4.1,h4.2.1,h4.2.2.1⟩ (v.rul j hj) hb
 unfold cp
 rintro(h|h|h|h|h|h|h|h|h|h|h|h)
 any_goals omega
 all_goals first|exact h5 h|exact n1 h|exact n2 h|exact n3 h
structure Iy (p:an) (q:aE):Prop where
 vld:aw p=0
 name:bU q.name
 kind:q.kind=1\/q.kind=2
 shp:¬((q.kind=1/\0<q.goal.length)\/(q.kind=2/\(0<q.bad.length\/0<q.adjacent.length)))
 start:bw q.start p.states.length=0
 ini:∀j,j<q.start.length->q.start.getD j 0∈p.initial
 goal:q.kind=2->bw q.goal p.states.length=0/\0<q.goal.length
 bad:q.kind=1->q.bad.length<=3/\mO p.states.length q.bad=0/\mv p q.adjacent=0/\¬(q.bad.length=0/\q.adjacent.length=0)
theorem bl {p:an} {q:aE} (h:aU p q=0):Iy p q:=by
 unfold aU at h
 by_cases h1:aw p≠0
 ·rw[if_pos h1] at h;omega
 rw[if_neg h1] at h
 by_cases h2:¬bU q.name
 ·rw[if_pos h2] at h;omega
 rw[if_neg h2] at h
 by_cases h3:q.kind≠1/\q.kind≠2
 ·rw[if_pos h3] at h;omega
 rw[if_neg h3] at h
 by_cases h4:(q.kind=1/\0<q.goal.length)\/(q.kind=2/\(0<q.bad.length\/0<q.adjacent.length))
 ·rw[if_pos h4] at h;omega
 rw[if_neg h4] at h
 by_cases h5:bw q.start p.states.length≠0
 ·rw[if_pos h5] at h;omega
 rw[if_neg h5] at h
 by_cases h6:¬(∀j,j<q.start.length->q.start.getD j 0∈p.initial)
 ·rw[if_pos h6] at h;omega
 rw[if_neg h6] at h
 refine⟨by omega,Classical.not_not.1 h2,by omega,h4,by omega,Classical.not_not.1 h6,fun k=>?_,fun k=>?_⟩
 ·rw[if_pos k] at h
  have hz:=bM h
  have a:=hz (if q.goal.length=0 then 1 else 0) (by simp)
  refine⟨hz _ (by simp),?_⟩
  split at a<;>omega
 ·rw[if_neg (by omega)] at h
  have hz:=bM h
  have a:=hz (if q.bad.length=0/\q.adjacent.length=0 then 1 else 0) (by simp)
  have b:=hz (if 3<q.bad.length then 4 else 0) (by simp)
  refine⟨?_,hz _ (by simp),hz _ (by simp),?_⟩
  ·split at b<;>omega
  ·split at a
   ·omega
   ·assumption
theorem qn {p:an} {q:aE} (h:Iy p q) (k:q.kind=1) {j:Nat} (hj:j<q.bad.length):bw (q.bad.getD j ca).states p.states.length=0/\0<(q.bad.getD j ca).states.length/\1<=(q.bad.getD j ca).least/\(q.bad.getD j ca).least<=3:=by
 have hz:=bM (h.bad k).2.1
 have hc:=bM (hz (xM p.states.length (q.bad.getD j ca)) (List.mem_map.2 ⟨_,bi _ hj,rfl⟩))
 have a:=hc (if(q.bad.getD j ca).states.length=0\/(q.bad.getD j ca).least<1\/3<(q.bad.getD j ca).least then 1 else 0) (by simp)
 refine⟨hc _ (by simp),?_⟩
 split at a<;>omega
theorem jE {p:an} {q:aE} (h:aU p q=0):¬iX q:=by
 have v:=bl h
 have h1:=v.name.1.2
 have hs:=(bk v.vld).len
 have h2:=bu v.start
 have h3:q.goal.length<=6:=by
  rcases v.kind with k|k
  ·have:=v.shp;omega
  ·have:=bu (v.goal k).1;omega
 have h4:q.bad.length<=3/\q.adjacent.length<=2:=by
  rcases v.kind with k|k
  ·refine⟨(v.bad k).1,?_⟩
   have ha:=(v.bad k).2.2.1
   unfold mv at ha
   split at ha
   ·omega
   ·split at ha
    ·omega
    ·split at ha<;>omega
  ·have:=v.shp;omega
 have h5:¬∃j,j<q.bad.length/\60<(q.bad.getD j ca).states.length:=by
  rintro⟨j,hj,hb⟩
  rcases v.kind with k|k
  ·have:=bu (qn v k hj).1;omega
  ·have:=v.shp;omega
 unfold iX
 rintro(h|h|h|h|h|h)
 any_goals omega
 exact h5 h
structure Vb where
 kind:Int
 seg:Int
 idx:Int
theorem jF {a b:Vb} (h1:a.kind=b.kind) (h2:a.seg=b.seg) (h3:a.idx=b.idx):a=b:=by
 cases a;cases b;cases h1;cases h2;cases h3;rfl
instance decVb:DecidableEq Vb:=fun a b=>
 if h:a.kind=b.kind/\a.seg=b.seg/\a.idx=b.idx then isTrue (jF h.1 h.2.1 h.2.2) else isFalse (fun e=>h (by rw[e];exact⟨rfl,rfl,rfl⟩))
def cw:Vb:=⟨0,0,0⟩
def d7 (v:Vb):List AV:=[.int .i64 v.kind, .int .i64 v.seg, .int .i64 v.idx]
def cC (p:an) (q:aE):List Int:=if 0<q.start.length then q.start else p.initial
def fy (r:bC):Prop:=r.kind=1/\r.src<r.dst/\r.some_.length=0/\r.forall_.length=0
instance (r:bC):Decidable (fy r):=inferInstanceAs (Decidable (_/\_))
def c9 (p:an):Prop:=p.topology=1/\p.values.length=0/\∀j,j<p.rules.length->fy (p.rules.getD j aq)
instance (p:an):Decidable (c9 p):=inferInstanceAs (Decidable (_/\_))
def g6 (p:an) (q:aE):Prop:=q.kind=2->∀j,j<p.rules.length->(p.rules.getD j aq).src∈q.goal->(p.rules.getD j aq).dst∈q.goal
instance (p:an) (q:aE):Decidable (g6 p q):=inferInstanceAs (Decidable (_->_))
def qo (rs:List bC):Nat->Nat
 |0=>1
 |k+1=>qo rs k*(1+(rs.getD k aq).guards.length)
def wA (p:an) (q:aE):Nat:=if q.kind=2 then qo p.rules p.rules.length else 1
def dl (p:an) (q:aE):Int:=if aU p q≠0 then aU p q else if¬(c9 p/\g6 p q) then 7 else if 64<wA p q then 4 else 0
theorem Ag {rs:List bC} (h:∀j,j<rs.length->(rs.getD j aq).guards.length<=2):∀k,k<=rs.length->qo rs k<=3^k
 |0,_=>by simp[qo]
 |k+1,hk=>by
  have a:=Ag h k (by omega)
  have b:=h k (by omega)
  rw[qo,Nat.pow_succ]
  exact Nat.mul_le_mul a (by omega)
def eM (n:Nat) (l:List Int):Prop:=∀i,i<l.length->(0<=l.getD i 0/\l.getD i 0<n)/\l.getD i 0∉l.take i
instance (n:Nat) (l:List Int):Decidable (eM n l):=inferInstanceAs (Decidable (∀i,i<l.length->_))
theorem tE {l:List Int} (h:∀i,i<l.length->l.getD i 0∉l.take i):l.Nodup:=by
 rw[List.nodup_iff_pairwise_ne,List.pairwise_iff_getElem]
 intro i j hi hj hij e
 have:=h j hj
 rw[au 0 hj,<-e] at this
 exact this (List.mem_take_iff_getElem.2 ⟨i,by omega,rfl⟩)
theorem jX:∀{n:Nat} {l:List Int},l.Nodup->(∀x∈l,0<=x/\x<n)->l.length<=n
 |0,l,_,hb=>by
  cases l with
  |nil=>simp
  |cons a l=>have:=hb a (by simp);omega
 |n+1,l,hn,hb=>by
  have h1:(l.erase (n:Int)).length<=n:=jX (hn.erase _) fun x hx=>by
   have a:=hb x (List.mem_of_mem_erase hx)
   have b:x≠n:=fun e=>by subst e;exact(List.Nodup.not_mem_erase hn) hx
   omega
  have h2:l.length<=(l.erase (n:Int)).length+1:=by
   rw[List.length_erase];split<;>omega
  omega
theorem qp {n:Nat} {l:List Int} (h:eM n l):l.Nodup:=tE fun i hi=>(h i hi).2
theorem dF {n:Nat} {l:List Int} (h:eM n l):l.length<=n:=jX (qp h) fun x hx=>by
 obtain⟨i,hi,e⟩:=List.getElem_of_mem hx
 have:=(h i hi).1
 rwa [au 0 hi,e] at this
def rD (k:Nat):Nat->List Int->List (List Int)
 |0,at_=>[at_]
 |m+1,at_=>at_::(List.range k).flatMap fun i:Nat=>if(i:Int)∈at_ then[] else rD k m (at_++[(i:Int)])
def rE (p:an):List (List Int):=rD (ar p.rules).length (ar p.rules).length []
def yB (rs:List bC) (number:Nat):Nat->Nat
 |0=>number
 |m+1=>yB rs number m / (1+(rs.getD (rs.length-1-m) aq).guards.length)
def Ah (rs:List bC) (number i:Nat):Nat:=yB rs number (rs.length-1-i) % (1+(rs.getD i aq).guards.length)
def ve (p:an) (number:Nat):List Int:=(List.range p.rules.length).map fun i=>(Ah p.rules number i:Int)
theorem lC (p:an) (number:Nat):(ve p number).length=p.rules.length:=by simp[ve]
theorem wB {p:an} {number i:Nat} (h:i<p.rules.length):(ve p number).getD i 0=(Ah p.rules number i:Int):=by
 rw[ve,au 0 (by simp;exact h)];simp
theorem Fa (rs:List bC) (number i:Nat):Ah rs number i<=(rs.getD i aq).guards.length:=by
 have:=Nat.mod_lt (yB rs number (rs.length-1-i)) (show 0<1+(rs.getD i aq).guards.length by omega)
 unfold Ah;omega
def pA (p:an):Prop:=p.fault=1\/p.fault=2
instance (p:an):Decidable (pA p):=inferInstanceAs (Decidable (_\/_))
def xR (T:List dB) (sch:List Int) (j:Nat) (r:bC):Prop:=∀g∈r.guards,∃i,i<j/\T.getD (sch.getD i 0).toNat aA=g
instance (T:List dB) (sch:List Int) (j:Nat) (r:bC):Decidable (xR T sch j r):=inferInstanceAs (Decidable (∀g∈r.guards,_))
def pn (p:an) (sch:List Int) (j r:Nat):List Vb:=if xR (ar p.rules) sch j (p.rules.getD r aq) then(if pA p then[⟨5,j,r⟩,⟨6,j,r⟩] else[⟨5,j,r⟩]) else[]
def bE (p:an) (sch:List Int) (j k:Nat):List Vb:=(List.range k).flatMap (pn p sch j)
def vf (p:an) (q:aE):List Vb:=(cC p q).map (fun x=>⟨3,0,x⟩)++(if pA p then p.initial.map (fun x=>(⟨4,0,x⟩:Vb)) else[])
def bI (p:an) (q:aE) (sch:List Int):List Vb:=[⟨0,0,0⟩,⟨1,0,0⟩,⟨2,0,0⟩]++vf p q++(List.range (sch.length+1)).flatMap fun j=>bE p sch j p.rules.length
theorem cY (p:an) (sch:List Int) (j k:Nat):bE p sch j (k+1)=bE p sch j k++pn p sch j k:=by simp[bE,List.range_succ,List.flatMap_append]
theorem CV (p:an) (sch:List Int) (j r:Nat):(pn p sch j r).length<=2:=by unfold pn;split<;>(try split)<;>simp
theorem ir (p:an) (sch:List Int) (j:Nat):∀k,(bE p sch j k).length<=2*k
 |0=>by simp[bE]
 |k+1=>by rw[cY,List.length_append];have:=ir p sch j k;have:=CV p sch j k;omega
theorem oF (p:an) (sch:List Int) (m:Nat):∀k,((List.range k).flatMap fun j=>bE p sch j m).length<=2*m*k
 |0=>by simp
 |k+1=>by
  rw[List.range_succ,List.flatMap_append,List.length_append]
  have a:=oF p sch m k
  have b:=ir p sch k m
  simp only[List.flatMap_cons,List.flatMap_nil,List.append_nil]
  rw[Nat.mul_add,Nat.mul_one]
  omega
theorem gR {p:an} {sch:List Int} {j r:Nat} {v:Vb} (h:v∈pn p sch j r):(v.kind=5\/v.kind=6/\pA p)/\v.seg=j/\v.idx=r/\xR (ar p.rules) sch j (p.rules.getD r aq):=by
 unfold pn at h
 split at h
 ·rename_i ha
  split at h
  ·rename_i hw
   simp only[List.mem_cons,List.not_mem_nil,or_false] at h
   rcases h with rfl|rfl
   ·exact⟨.inl rfl,rfl,rfl,ha⟩
   ·exact⟨.inr ⟨rfl,hw⟩,rfl,rfl,ha⟩
  ·simp only[List.mem_cons,List.not_mem_nil,or_false] at h
   subst h
   exact⟨.inl rfl,rfl,rfl,ha⟩
 ·simp at h
theorem xS (p:an) (sch:List Int) (j r:Nat):(pn p sch j r).Nodup:=by
 unfold pn
 split
 ·split
  ·simp
  ·simp
 ·simp
theorem gm {p:an} {sch:List Int} {j k:Nat} {v:Vb} (h:v∈bE p sch j k):∃r,r<k/\v∈pn p sch j r:=by
 unfold bE at h
 obtain⟨r,hr,hv⟩:=List.mem_flatMap.1 h
 exact⟨r,List.mem_range.1 hr,hv⟩
theorem oG (p:an) (sch:List Int) (j:Nat):∀k,(bE p sch j k).Nodup
 |0=>by simp[bE]
 |k+1=>by
  rw[cY,List.nodup_append]
  refine⟨oG p sch j k,xS p sch j k,fun a ha b hb e=>?_⟩
  obtain⟨r,hr,ha⟩:=gm ha
  have:=(gR ha).2.2.1
  have:=(gR hb).2.2.1
  subst e
  omega
theorem oH (p:an) (sch:List Int) (m:Nat):∀k,((List.range k).flatMap fun j=>bE p sch j m).Nodup
 |0=>by simp
 |k+1=>by
  rw[List.range_succ,List.flatMap_append,List.nodup_append]
  simp only[List.flatMap_cons,List.flatMap_nil,List.append_nil]
  refine⟨oH p sch m k,oG p sch k m,fun a ha b hb e=>?_⟩
  obtain⟨j,hj,ha⟩:=List.mem_flatMap.1 ha
  have hj:=List.mem_range.1 hj
  obtain⟨r,_,ha⟩:=gm ha
  obtain⟨r',_,hb⟩:=gm hb
  have:=(gR ha).2.1
  have:=(gR hb).2.1
  subst e
  omega
theorem my {l:List Int} {n:Int} (h:bw l n=0):l.Nodup:=by
 obtain⟨_,h2⟩:=nc h
 have key:∀(k i:Nat),i<k->k<l.length->l.getD i 0<l.getD k 0:=by
  intro k
  induction k with
  |zero=>intro i hi;omega
  |succ k ih=>
   intro i hi hk
   have h1:=h2 (k+1) hk (by omega)
   rw[Nat.add_sub_cancel] at h1
   by_cases e:i=k
   ·subst e;exact h1
   ·have:=ih i (by omega) (by omega);omega
 rw[List.nodup_iff_pairwise_ne,List.pairwise_iff_getElem]
 intro i j hi hj hij e
 have:=key j i hij hj
 rw[au 0 hi,au 0 hj,e] at this
 omega
theorem qq {l:List Int} {f:Int->Vb} (h:l.Nodup) (hf:∀a b,f a=f b->a=b):(l.map f).Nodup:=by
 rw[List.nodup_iff_pairwise_ne] at*
 exact List.pairwise_map.2 (h.imp fun hab e=>hab (hf _ _ e))
theorem oI {p:an} {q:aE} (h:aU p q=0) (sch:List Int):(bI p q sch).Nodup:=by
 have v:=bl h
 have hs:(cC p q).Nodup:=by
  unfold cC;split
  ·exact my v.start
  ·exact my (bk v.vld).ini.1
 have hst:(vf p q).Nodup:=by
  unfold vf
  rw[List.nodup_append]
  refine⟨qq hs fun a b e=>by injection e,?_,fun a ha b hb e=>?_⟩
  ·split
   ·exact qq (my (bk v.vld).ini.1) fun a b e=>by injection e
   ·simp
  ·obtain⟨x,_,rfl⟩:=List.mem_map.1 ha
   split at hb
   ·obtain⟨y,_,rfl⟩:=List.mem_map.1 hb
    injection e with e1
    omega
   ·simp at hb
 have hk:∀a∈vf p q,a.kind=3\/a.kind=4:=by
  intro a ha
  unfold vf at ha
  rcases List.mem_append.1 ha with ha|ha
  ·obtain⟨x,_,rfl⟩:=List.mem_map.1 ha;exact .inl rfl
  ·split at ha
   ·obtain⟨x,_,rfl⟩:=List.mem_map.1 ha;exact .inr rfl
   ·simp at ha
 have hk2:∀a∈((List.range (sch.length+1)).flatMap fun j=>bE p sch j p.rules.length),a.kind=5\/a.kind=6:=by
  intro a ha
  obtain⟨j,_,ha⟩:=List.mem_flatMap.1 ha
  obtain⟨r,_,ha⟩:=gm ha
  have:=(gR ha).1
  omega
 unfold bI
 rw[List.nodup_append,List.nodup_append]
 refine⟨⟨by simp,hst,fun a ha b hb e=>?_⟩,oH p sch _ _,fun a ha b hb e=>?_⟩
 ·subst e
  have:=hk a hb
  simp only[List.mem_cons,List.not_mem_nil,or_false] at ha
  rcases ha with rfl|rfl|rfl<;>simp at this
 ·subst e
  have h2:=hk2 a hb
  rcases List.mem_append.1 ha with ha|ha
  ·simp only[List.mem_cons,List.not_mem_nil,or_false] at ha
   rcases ha with rfl|rfl|rfl<;>simp at h2
  ·have:=hk a ha;omega
theorem CW {p:an} {q:aE} (h:aU p q=0):(vf p q).length<=12:=by
 have v:=bl h
 have w:=bk v.vld
 have a:=bu v.start
 have b:=bu w.ini.1
 have c:=w.len
 unfold vf cC
 rw[List.length_append,List.length_map]
 split<;>split<;>simp<;>omega
theorem oJ {p:an} {q:aE} (h:aU p q=0) {sch:List Int} (hs:eM (ar p.rules).length sch):(bI p q sch).length<=79:=by
 have w:=bk (bl h).vld
 have a:=CW h
 have b:=oF p sch p.rules.length (sch.length+1)
 have c:=dF hs
 have d:=w.thr
 have e:=w.len
 have f:2*p.rules.length*(sch.length+1)<=16*4:=Nat.mul_le_mul (by omega) (by omega)
 unfold bI
 rw[List.length_append,List.length_append]
 simp only[List.length_cons,List.length_nil]
 omega
abbrev Co:=Vb->Int
def zC:Co:=fun _=>0
def da (c:Co) (v0:Vb) (k:Int):Co:=fun v=>if v=v0 then c v+k else c v
theorem jY (c:Co) (v:Vb) (k:Int):da c v k v=c v+k:=by simp[da]
theorem lD (c:Co) {v v0:Vb} (k:Int) (h:v≠v0):da c v0 k v=c v:=by simp[da,h]
theorem rF (c:Co) {vars:List Vb} {m:Nat} (hm:m<vars.length):(vars.map c).getD m 0=c (vars.getD m cw):=by
 rw[au 0 (by simpa using hm),au cw hm,List.getElem_map]
theorem Ai (c:Co) {vars:List Vb} {v0:Vb} (k:Int) (h:v0∉vars):vars.map (da c v0 k)=vars.map c:=
 List.map_congr_left fun v hv=>lD c k fun e=>h (e▸hv)
theorem wC (c:Co) {vars:List Vb} {m:Nat} (k:Int) (hn:vars.Nodup) (hm:m<vars.length):(vars.map c).set m (c (vars.getD m cw)+k)=vars.map (da c (vars.getD m cw) k):=by
 generalize e0:vars.getD m cw=v0
 have e0:vars[m]=v0:=by rw[<-e0,au cw hm]
 apply List.ext_getElem
 ·simp
 ·intro i h1 h2
  rw[List.getElem_set,List.getElem_map]
  by_cases e:m=i
  ·subst e;rw[if_pos rfl,List.getElem_map,e0,jY]
  ·rw[if_neg e,List.getElem_map,lD]
   exact fun e2=>e ((List.getElem_inj hn).1 (e0.trans e2.symm))
noncomputable def mz (vars:List Vb) (kind:Int):Nat->Int×Int->Option Int
 |0=>fun _=>none
 |n+1=>if(vars.getD n cw).kind=kind then nG (mz vars kind n) ((vars.getD n cw).seg,(vars.getD n cw).idx) (n:Int) else mz vars kind n
theorem oK {vars:List Vb} {kind s i:Int}:∀{n:Nat} {j:Int},mz vars kind n (s,i)=some j->∃m:Nat,j=m/\m<n/\vars.getD m cw=⟨kind,s,i⟩
 |0,j,h=>by cases h
 |n+1,j,h=>by
  rw[mz] at h
  split at h
  ·rename_i hk
   by_cases e:(s,i)=((vars.getD n cw).seg,(vars.getD n cw).idx)
   ·rw[e,eX] at h
    cases h
    injection e with e1 e2
    exact⟨n,rfl,by omega,jF hk e1.symm e2.symm⟩
   ·rw[gz _ _ e] at h
    obtain⟨m,a,b,c⟩:=oK h
    exact⟨m,a,by omega,c⟩
  ·obtain⟨m,a,b,c⟩:=oK h
   exact⟨m,a,by omega,c⟩
theorem oM {vars:List Vb} {kind s i:Int}:∀{n:Nat},mz vars kind n (s,i)=none->∀m,m<n->vars.getD m cw≠⟨kind,s,i⟩
 |0,_,m,hm=>by omega
 |n+1,h,m,hm=>by
  rw[mz] at h
  by_cases e:m=n
  ·subst e
   intro e2
   rw[e2,if_pos rfl,eX] at h
   cases h
  ·split at h
   ·rename_i hk
    by_cases e:(s,i)=((vars.getD n cw).seg,(vars.getD n cw).idx)
    ·rw[e,eX] at h;cases h
    ·rw[gz _ _ e] at h
     exact oM h m (by omega)
   ·exact oM h m (by omega)
theorem xT {vars:List Vb} {kind s i:Int} (h:mz vars kind vars.length (s,i)=none):(⟨kind,s,i⟩:Vb)∉vars:=by
 intro hm
 obtain⟨m,hm,e⟩:=List.getElem_of_mem hm
 exact oM h m hm (by rw[au cw hm,e])
def iu (l:kK):Co:=fun v=>if v=⟨0,0,0⟩ then l.n else if v=⟨1,0,0⟩ then l.t else if v=⟨2,0,0⟩ then l.f else 0
def ce (c:Co) (k:Int) (d:Co):Co:=fun v=>c v+k*d v
def i0 (n:Nat) (fire:Int) (j i:Nat) (v:Vb):Prop:=v.kind=fire/\0<=v.seg/\0<=v.idx/\(v.seg<j/\v.idx<n\/v.seg=j/\v.idx<i)
instance (n:Nat) (fire:Int) (j i:Nat) (v:Vb):Decidable (i0 n fire j i v):=inferInstanceAs (Decidable (_/\_))
def HE (rs:List bC) (state:Int) (v:Vb):Int:=(if(rs.getD v.idx.toNat aq).dst=state then 1 else 0)-(if(rs.getD v.idx.toNat aq).src=state then 1 else 0)
def eE (rs:List bC) (start fire state:Int) (j i:Nat):Co:=fun v=>(if v=⟨start,0,state⟩ then 1 else 0)+if i0 rs.length fire j i v then HE rs state v else 0
def cK (rs:List bC) (fire message:Int) (j i:Nat):Co:=fun v=>if i0 rs.length fire j i v/\message∈(rs.getD v.idx.toNat aq).send then 1 else 0
theorem lE (n:Nat) (fire:Int) (j i:Nat) (v:Vb):i0 n fire j (i+1) v↔i0 n fire j i v\/v=⟨fire,j,i⟩:=by
 unfold i0
 constructor
 ·rintro⟨h1,h2,h3,h4⟩
  by_cases e:v.seg=j/\v.idx=i
  ·exact .inr (jF h1 e.1 e.2)
  ·exact .inl ⟨h1,h2,h3,by omega⟩
 ·rintro(⟨h1,h2,h3,h4⟩|rfl)
  ·exact⟨h1,h2,h3,by omega⟩
  ·refine⟨rfl,?_,?_,?_⟩<;>dsimp only<;>omega
theorem rG (n:Nat) (fire:Int) (j i:Nat):¬i0 n fire j i ⟨fire,j,i⟩:=by unfold i0;dsimp only;omega
theorem wD (n:Nat) (fire:Int) (j:Nat) (v:Vb):i0 n fire j n v↔i0 n fire (j+1) 0 v:=by unfold i0;omega
theorem CX (rs:List bC) (start fire state:Int) (j:Nat):eE rs start fire state j rs.length=eE rs start fire state (j+1) 0:=by
 funext v;unfold eE;simp only[wD]
theorem CY (rs:List bC) (fire message:Int) (j:Nat):cK rs fire message j rs.length=cK rs fire message (j+1) 0:=by
 funext v;unfold cK;simp only[wD]
theorem Ej (rs:List bC) (start fire state:Int) (j i:Nat) (v:Vb):-1<=eE rs start fire state j i v/\eE rs start fire state j i v<=2:=by
 unfold eE HE
 (repeat' split)<;>omega
theorem tF (rs:List bC) (fire message:Int) (j i:Nat) (v:Vb):0<=cK rs fire message j i v/\cK rs fire message j i v<=1:=by
 unfold cK
 split<;>omega
theorem Aj (rs:List bC) (fire message:Int) (j i:Nat) (c:Co) (k:Int):ce c k (cK rs fire message j (i+1))=if message∈(rs.getD i aq).send then da (ce c k (cK rs fire message j i)) ⟨fire,j,i⟩ k else ce c k (cK rs fire message j i):=by
 funext v
 by_cases e:v=⟨fire,j,i⟩
 ·subst e
  by_cases hm:message∈(rs.getD i aq).send
  ·rw[if_pos hm,jY]
   unfold ce cK
   rw[if_pos ⟨(lE _ _ _ _ _).2 (.inr rfl),by simpa using hm⟩,if_neg (fun h=>rG _ _ _ _ h.1)]
   omega
  ·rw[if_neg hm]
   unfold ce cK
   rw[if_neg (fun h=>hm (by simpa using h.2)),if_neg (fun h=>rG _ _ _ _ h.1)]
 ·have a:i0 rs.length fire j (i+1) v↔i0 rs.length fire j i v:=by rw[lE];simp[e]
  have b:ce c k (cK rs fire message j (i+1)) v=ce c k (cK rs fire message j i) v:=by unfold ce cK;simp only[a]
  rw[b]
  split
  ·rw[lD _ _ e]
  ·rfl
def Ak (rs:List bC) (c:Co) (k state fire:Int) (j i:Nat):Co:=
 let c1:=if(rs.getD i aq).dst=state then da c ⟨fire,j,i⟩ k else c
 if(rs.getD i aq).src=state then da c1 ⟨fire,j,i⟩ (-k) else c1
theorem Al (rs:List bC) (start fire state:Int) (j i:Nat) (c:Co) (k:Int):ce c k (eE rs start fire state j (i+1))=Ak rs (ce c k (eE rs start fire state j i)) k state fire j i:=by
 funext v
 unfold Ak
 by_cases e:v=⟨fire,j,i⟩
 ·subst e
  have h1:=(lE rs.length fire j i ⟨fire,j,i⟩).2 (.inr rfl)
  have h2:=rG rs.length fire j i
  have e2:(⟨fire,j,i⟩:Vb).idx.toNat=i:=by simp
  have key:ce c k (eE rs start fire state j (i+1)) ⟨fire,j,i⟩=ce c k (eE rs start fire state j i) ⟨fire,j,i⟩+k*HE rs state ⟨fire,j,i⟩:=by
   unfold ce eE
   rw[if_pos h1,if_neg h2,Int.mul_add,Int.mul_add]
   omega
  rw[key]
  unfold HE
  rw[e2]
  by_cases hd:(rs.getD i aq).dst=state<;>by_cases hs:(rs.getD i aq).src=state<;>simp only[hd,hs,if_pos,if_neg,if_true,if_false,jY,not_false_eq_true]<;>omega
 ·have a:i0 rs.length fire j (i+1) v↔i0 rs.length fire j i v:=by rw[lE];simp[e]
  have b:ce c k (eE rs start fire state j (i+1)) v=ce c k (eE rs start fire state j i) v:=by unfold ce eE;simp only[a]
  rw[b]
  split<;>split<;>simp only[lD _ _ e]
theorem CZ (c:Co) (k:Int) (l:kK):da (da (da c ⟨0,0,0⟩ (k*l.n)) ⟨1,0,0⟩ (k*l.t)) ⟨2,0,0⟩ (k*l.f)=ce c k (iu l):=by
 funext v
 unfold da ce iu
 by_cases h0:v=⟨0,0,0⟩
 ·subst h0;simp
 ·by_cases h1:v=⟨1,0,0⟩
  ·subst h1;simp
  ·by_cases h2:v=⟨2,0,0⟩
   ·subst h2;simp
   ·simp[h0,h1,h2]
def tG (kind:Int) (n:Nat):Co:=fun v=>if v.kind=kind/\v.seg=0/\0<=v.idx/\v.idx<n then 1 else 0
theorem C1 (kind:Int) (n:Nat) (c:Co) (k:Int):ce c k (tG kind (n+1))=da (ce c k (tG kind n)) ⟨kind,0,n⟩ k:=by
 funext v
 by_cases e:v=⟨kind,0,n⟩
 ·subst e
  rw[jY]
  unfold ce tG
  rw[if_pos ⟨rfl,rfl,by dsimp only;omega,by dsimp only;omega⟩,if_neg (by dsimp only;omega)]
  omega
 ·rw[lD _ _ e]
  unfold ce tG
  have h:(v.kind=kind/\v.seg=0/\0<=v.idx/\v.idx<(n+1:Nat))↔(v.kind=kind/\v.seg=0/\0<=v.idx/\v.idx<n):=by
   constructor
   ·intro h
    have:v.idx≠n:=fun h2=>e (jF h.1 h.2.1 h2)
    omega
   ·intro h;omega
  simp only[h]
abbrev Rw:=Co×Int
def cL (vars:List Vb) (r:Rw):eN:=⟨vars.map r.1,r.2⟩
def vg (l:kK):Rw:=(iu l,l.c)
def i3 (kind:Int) (n:Nat) (k:Int) (l:kK):Rw:=(ce (ce zC k (tG kind n)) (-k) (iu l),-k*l.c)
def tH (p:an) (g:dB) (j:Nat):Rw:=
 let c1:=ce (ce zC g.coef (cK p.rules 5 g.message j 0)) g.coef (cK p.rules 6 g.message j 0)
 let c2:=if p.fault=3 then da c1 ⟨2,0,0⟩ g.coef else c1
 (ce c2 (-1) (iu g.bound),-g.bound.c)
def C2 (p:an) (start fire:Int) (x j:Nat):Rw:=(ce zC 1 (eE p.rules start fire x (j+1) 0),0)
def tJ (p:an) (seg:Nat) (states:List Int) (least:Int):Rw:=(states.foldl (fun c x=>ce c 1 (eE p.rules 3 5 x (seg+1) 0)) zC,-least)
def tK (p:an) (seg:Nat) (r:bC) (ch:Int):Rw:=
 if ch=0 then(ce zC (-1) (eE p.rules 3 5 r.src (seg+1) 0),0)
 else
  let g:=r.guards.getD (ch-1).toNat aA
  let c1:=ce zC (-g.coef) (cK p.rules 5 g.message (seg+1) 0)
  let c2:=if p.fault=1 then ce c1 (-g.coef) (cK p.rules 6 g.message (seg+1) 0) else c1
  (ce c2 1 (iu g.bound),g.bound.c-1)
def oN (p:an):List kK:=[⟨-1,1,0,0⟩,⟨0,1,-1,0⟩,⟨0,1,0,-1⟩]++(if p.fault=0 then[⟨0,0,-1,0⟩,⟨0,0,0,-1⟩] else[])++p.resilience
def rH (p:an):List Rw:=[i3 3 p.states.length 1 ⟨0,1,0,-1⟩,i3 3 p.states.length (-1) ⟨0,1,0,-1⟩]++if pA p then[i3 4 p.states.length 1 ⟨0,0,0,1⟩,i3 4 p.states.length (-1) ⟨0,0,0,1⟩] else[]
def tL (p:an) (sch:List Int) (j:Nat):List Rw:=
 (if 0<j then[tH p ((ar p.rules).getD (sch.getD (j-1) 0).toNat aA) j] else[])++((List.range p.states.length).map fun x=>C2 p 3 5 x j)++(if pA p then(List.range p.states.length).map fun x=>C2 p 4 6 x j else[])
def G2 (p:an) (q:aE):List Int:=((List.range p.states.length).map fun x:Nat=>(x:Int)).filter fun x=>decide (x∉q.goal)
def rI (p:an) (q:aE) (seg number:Nat):List Rw:=
 if q.kind=1 then q.bad.map fun c=>tJ p seg c.states c.least
 else tJ p seg (G2 p q) 1::(List.range p.rules.length).map fun i=>tK p seg (p.rules.getD i aq) ((ve p number).getD i 0)
def Fb (p:an) (q:aE) (sch:List Int) (number:Int):List Rw:=
 (oN p).map vg++rH p++((List.range (sch.length+1)).flatMap (tL p sch))++if 0<=number then rI p q sch.length number.toNat else[]
def oO (p:an) (q:aE) (sch:List Int) (number:Int):List eN:=(Fb p q sch number).map (cL (bI p q sch))
def HS (p:an) (sch:List Int) (v:Vb):Prop:=
 (v=⟨0,0,0⟩\/v=⟨1,0,0⟩\/v=⟨2,0,0⟩)\/((v.kind=3\/v.kind=4/\pA p)/\v.seg=0/\0<=v.idx/\v.idx<p.states.length)\/
 ((v.kind=5\/v.kind=6/\pA p)/\(0<=v.seg/\v.seg<=sch.length)/\0<=v.idx/\v.idx<p.rules.length)
theorem vi {l:List Int} {n:Int} (h:bw l n=0):∀x∈l,0<=x/\x<n:=by
 intro x hx
 obtain⟨i,hi,e⟩:=List.getElem_of_mem hx
 have:=(nc h).1 i hi
 rwa [au 0 hi,e] at this
theorem G3 {p:an} {q:aE} (h:aU p q=0):∀x∈cC p q,0<=x/\x<p.states.length:=by
 have v:=bl h
 unfold cC
 split
 ·exact vi v.start
 ·exact vi (bk v.vld).ini.1
theorem Am {p:an} {q:aE} {sch:List Int} (h:aU p q=0) {v:Vb} (hv:v∈bI p q sch):HS p sch v:=by
 unfold bI at hv
 rcases List.mem_append.1 hv with hv|hv
 ·rcases List.mem_append.1 hv with hv|hv
  ·simp only[List.mem_cons,List.not_mem_nil,or_false] at hv
   exact .inl hv
  ·right;left
   unfold vf at hv
   rcases List.mem_append.1 hv with hv|hv
   ·obtain⟨x,hx,rfl⟩:=List.mem_map.1 hv
    exact⟨.inl rfl,rfl,G3 h x hx⟩
   ·split at hv
    ·rename_i hw
     obtain⟨x,hx,rfl⟩:=List.mem_map.1 hv
     exact⟨.inr ⟨rfl,hw⟩,rfl,vi (bk (bl h).vld).ini.1 x hx⟩
    ·simp at hv
 ·right;right
  obtain⟨j,hj,hv⟩:=List.mem_flatMap.1 hv
  have hj:=List.mem_range.1 hj
  obtain⟨r,hr,hv⟩:=gm hv
  obtain⟨a,b,c,_⟩:=gR hv
  exact⟨a,by omega,by omega⟩
section
variable {p:an} {sch:List Int} {v:Vb}
end
def Fc (rs:List bC) (ns:Nat):List Int:=(List.range ns).flatMap fun x:Nat=>((List.range rs.length).filter fun r=>decide ((rs.getD r aq).src=(x:Int))).map fun r:Nat=>(r:Int)
end
section
set_option maxRecDepth 100000
section
variable (k:Int->Int)
def xU (a b:Int):Prop:=k a<k b\/(k a=k b/\a<b)
def An (ns n:Nat):List Int:=(List.range ns).flatMap fun x:Nat=>((List.range n).filter fun r:Nat=>decide (k (r:Int)=(x:Int))).map fun r:Nat=>(r:Int)
end
section
variable {k:Int->Int}
theorem Ao:∀{l m:List Int},l.Pairwise (xU k)->m.Pairwise (xU k)->(∀x,x∈l↔x∈m)->l=m
 |[],[],_,_,_=>rfl
 |[],b::m,_,_,h=>by have:=(h b).2 List.mem_cons_self;cases this
 |a::l,[],_,_,h=>by have:=(h a).1 List.mem_cons_self;cases this
 |a::l,b::m,h1,h2,h=>by
  rw[List.pairwise_cons] at h1 h2
  have e:a=b:=by
   rcases List.mem_cons.1 ((h a).1 List.mem_cons_self) with e|ha
   ·exact e
   ·rcases List.mem_cons.1 ((h b).2 List.mem_cons_self) with e|hb
    ·exact e.symm
    ·have x:=h2.1 a ha
     have y:=h1.1 b hb
     unfold xU at x y
     omega
  subst e
  have irr:¬xU k a a:=by unfold xU;omega
  rw[Ao h1.2 h2.2 fun x=>⟨fun hx=>?_,fun hx=>?_⟩]
  ·rcases List.mem_cons.1 ((h x).1 (List.mem_cons_of_mem _ hx)) with rfl|hm
   ·exact absurd (h1.1 _ hx) irr
   ·exact hm
  ·rcases List.mem_cons.1 ((h x).2 (List.mem_cons_of_mem _ hx)) with rfl|hm
   ·exact absurd (h2.1 _ hx) irr
   ·exact hm
theorem Ap {ns n:Nat} (h:∀r:Nat,r<n->0<=k r/\k r<ns) (x:Int):x∈An k ns n↔∃r:Nat,r<n/\x=r:=by
 unfold An
 simp only[List.mem_flatMap,List.mem_map,List.mem_filter,List.mem_range,decide_eq_true_eq]
 constructor
 ·rintro⟨_,_,r,⟨hr,_⟩,rfl⟩;exact⟨r,hr,rfl⟩
 ·rintro⟨r,hr,rfl⟩
  have:=h r hr
  exact⟨(k r).toNat,by omega,r,⟨hr,by omega⟩,rfl⟩
theorem C3 (ns n:Nat):(An k ns n).Pairwise (xU k):=by
 unfold An
 rw[List.pairwise_flatMap]
 refine⟨fun x _=>?_,?_⟩
 ·rw[List.pairwise_map]
  have h0:(List.range n).Pairwise (·<·):=List.pairwise_lt_range
  refine(List.Pairwise.filter _ h0).imp_of_mem fun{a b} ha hb hab=>?_
  have ha:=(List.mem_filter.1 ha).2
  have hb:=(List.mem_filter.1 hb).2
  simp only[decide_eq_true_eq] at ha hb
  unfold xU
  omega
 ·have h0:(List.range ns).Pairwise (·<·):=List.pairwise_lt_range
  refine h0.imp fun{a b} hab x hx y hy=>?_
  obtain⟨r,hr,rfl⟩:=List.mem_map.1 hx
  obtain⟨s,hs,rfl⟩:=List.mem_map.1 hy
  have hr:=(List.mem_filter.1 hr).2
  have hs:=(List.mem_filter.1 hs).2
  simp only[decide_eq_true_eq] at hr hs
  unfold xU
  omega
structure wE (k:Int->Int) (i:Nat) (L:List Int):Prop where
 len:L.length=i
 pw:L.Pairwise (xU k)
 mem:∀x,x∈L↔∃r:Nat,r<i/\x=r
theorem wE.one:wE k 1 [0]:=⟨rfl,by simp,fun x=>by
 rw[List.mem_singleton]
 exact⟨fun h=>⟨0,by omega,h⟩,fun⟨r,hr,h⟩=>by rw[h,show r=0 by omega];rfl⟩⟩
theorem wE.ext {n ns:Nat} {L:List Int} (h:wE k n L) (hk:∀r:Nat,r<n->0<=k r/\k r<ns):L=An k ns n:=
 Ao h.pw (C3 ns n) fun x=>by rw[h.mem,Ap hk]
theorem wE.next {i j:Nat} {L:List Int} (h:wE k i L) (hj:j<=i) (h1:∀x∈L.drop j,k i<k x) (h2:j=0\/k (L.getD (j-1) 0)<=k i):wE k (i+1) (L.take j++[(i:Int)]++L.drop j):=by
 have hl:=h.len
 have hsplit:L.take j++L.drop j=L:=List.take_append_drop j L
 have hpw:(L.take j++L.drop j).Pairwise (xU k):=by rw[hsplit];exact h.pw
 rw[List.pairwise_append] at hpw
 have hlow:∀x∈L.take j,xU k x i:=by
  intro x hx
  have hxi:x<i:=by
   obtain⟨r,hr,rfl⟩:=(h.mem x).1 (List.mem_of_mem_take hx)
   omega
  obtain⟨a,ha,e⟩:=List.mem_take_iff_getElem.1 hx
  have hj0:j≠0:=by omega
  have h2:=h2.resolve_left hj0
  rw[au 0 (by omega)] at h2
  have hle:k x<=k (L[j-1]'(by omega)):=by
   by_cases e2:a=j-1
   ·subst e2;rw[<-e];exact Int.le_refl _
   ·have:=List.pairwise_iff_getElem.1 h.pw a (j-1) (by omega) (by omega) (by omega)
    rw[e] at this
    unfold xU at this
    omega
  unfold xU
  omega
 refine⟨?_,?_,fun x=>?_⟩
 ·simp only[List.length_append,List.length_take,List.length_cons,List.length_nil,List.length_drop]
  omega
 ·rw[List.pairwise_append,List.pairwise_append]
  refine⟨⟨hpw.1,by simp,fun x hx y hy=>?_⟩,hpw.2.1,fun x hx y hy=>?_⟩
  ·rw[List.mem_singleton] at hy;subst hy;exact hlow x hx
  ·rcases List.mem_append.1 hx with hx|hx
   ·exact hpw.2.2 x hx y hy
   ·rw[List.mem_singleton] at hx;subst hx
    exact .inl (h1 y hy)
 ·rw[List.mem_append,List.mem_append,List.mem_singleton]
  have hm:(x∈L.take j\/x∈L.drop j)↔x∈L:=by rw[<-List.mem_append,hsplit]
  constructor
  ·rintro((hx|rfl)|hx)
   ·obtain⟨r,hr,e⟩:=(h.mem x).1 (hm.1 (.inl hx));exact⟨r,by omega,e⟩
   ·exact⟨i,by omega,rfl⟩
   ·obtain⟨r,hr,e⟩:=(h.mem x).1 (hm.1 (.inr hx));exact⟨r,by omega,e⟩
  ·rintro⟨r,hr,e⟩
   by_cases e2:r=i
   ·subst e2;exact .inl (.inr e)
   ·rcases hm.2 ((h.mem x).2 ⟨r,by omega,e⟩) with hx|hx
    ·exact .inl (.inl hx)
    ·exact .inr hx
def lF (L R:List Int) (i:Int) (j:Nat):List Int:=L.take j++[i]++L.drop j++R
theorem Aq {L R:List Int} {i:Int} {j:Nat} (hj:j<=L.length):(lF L R i j).length=L.length+1+R.length:=by
 unfold lF
 simp only[List.length_append,List.length_take,List.length_cons,List.length_nil,List.length_drop]
 omega
theorem Ar (L R:List Int) (i:Int):lF L R i L.length=L++i::R:=by
 unfold lF
 simp
theorem C4 {L R:List Int} {i:Int} {j:Nat} (hj:j<=L.length):(lF L R i j).getD j 0=i:=by
 unfold lF
 rw[List.append_assoc,List.append_assoc,gD,List.getElem?_append_right (by rw[List.length_take];omega)]
 simp[Nat.min_eq_left hj]
theorem vj {L R:List Int} {i:Int} {j:Nat} (hj:j<L.length):(lF L R i (j+1)).getD j 0=L.getD j 0:=by
 unfold lF
 rw[List.append_assoc,List.append_assoc,gD,List.getElem?_append_left (by simp;omega),List.getElem?_take,if_pos (by omega),<-gD]
theorem xV {L R:List Int} {i:Int} {j:Nat} (hj:j<L.length):((lF L R i (j+1)).set (j+1) (L.getD j 0)).set j i=lF L R i j:=by
 have e1:L.take (j+1)=L.take j++[L.getD j 0]:=by
  rw[List.take_succ_eq_append_getElem hj,au 0 hj]
 have e2:L.drop j=L.getD j 0::L.drop (j+1):=by
  rw[List.drop_eq_getElem_cons hj,au 0 hj]
 unfold lF
 rw[e1,e2]
 generalize L.getD j 0=x
 have hl:(L.take j).length=j:=by rw[List.length_take];omega
 simp only[List.append_assoc,List.cons_append,List.nil_append]
 rw[List.set_append_right _ _ (by omega),hl,show j+1-j=1 by omega,List.set_append_right _ _ (by omega),hl,Nat.sub_self]
 rfl
end
end
end Go.Proofs.YtekmminpfhacpaaGreatDoor
