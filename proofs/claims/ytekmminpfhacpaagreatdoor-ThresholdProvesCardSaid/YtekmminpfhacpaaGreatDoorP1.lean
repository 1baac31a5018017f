import Derived.Test.YtekmminpfhacpaaGreatDoorM5
import Derived.Test.YtekmminpfhacpaaGreatDoorPlR
set_option linter.unusedVariables false
set_option linter.unusedSimpArgs false
namespace Go.Proofs.YtekmminpfhacpaaGreatDoor
section
set_option maxRecDepth 100000
set_option maxHeartbeats 8000000
theorem pn {l:List Int} {n:Int} (h:ca l n=0):rE l n/\Bb l:=by
 unfold ca at h
 by_cases h1:rE l n
 ·rw[if_pos h1] at h
  by_cases h2:Bb l
  ·exact⟨h1,h2⟩
  ·rw[if_neg h2] at h;omega
 ·rw[if_neg h1] at h;omega
theorem JF {l:List Int} {n:Int} (h:ca l n=0):∀k,k<l.length->(k:Int)<=l.getD k 0:=by
 obtain⟨h1,h2⟩:=pn h
 intro k
 induction k with
 |zero=>intro hk;exact(h1 0 hk).1
 |succ k ih=>
  intro hk
  have a:=ih (by omega)
  have b:=h2 (k+1) hk (by omega)
  rw[Nat.add_sub_cancel] at b
  omega
theorem bN {l:List Int} {n:Nat} (h:ca l n=0):l.length<=n:=by
 by_cases h0:l.length=0
 ·omega
 have a:=JF h (l.length-1) (by omega)
 have b:=(pn h).1 (l.length-1) (by omega)
 omega
structure QX (p:av):Prop where
 name:c9 p.name
 top:1<=p.topology/\p.topology<=4/\0<=p.fault/\p.fault<=3
 len:0<p.states.length/\p.states.length<=6/\p.messages.length<=3/\p.values.length<=3/\p.resilience.length<=4/\p.rules.length<=8
 nms:qq (eN p)
 shp:¬((p.topology≠1/\(0<p.messages.length\/0<p.values.length\/0<p.resilience.length\/p.fault≠0))\/(p.topology=1/\0<p.leader.length))
 res:zd p
 ini:ca p.initial p.states.length=0/\0<p.initial.length/\ca p.leader p.states.length=0
 rul:∀i,i<p.rules.length->da p i (p.rules.getD i ax)=0
 thr:(ay p.rules).length<=3
theorem aN {p:av} (h:aX p=0):QX p:=by
 unfold aX at h
 by_cases h1:¬c9 p.name
 ·rw[if_pos h1] at h;omega
 rw[if_neg h1] at h
 by_cases h2:p.topology<1\/4<p.topology\/p.fault<0\/3<p.fault
 ·rw[if_pos h2] at h;omega
 rw[if_neg h2] at h
 by_cases h3:p.states.length=0
 ·rw[if_pos h3] at h;omega
 rw[if_neg h3] at h
 by_cases h4:6<p.states.length\/3<p.messages.length\/3<p.values.length\/4<p.resilience.length\/8<p.rules.length
 ·rw[if_pos h4] at h;omega
 rw[if_neg h4] at h
 by_cases h5:¬qq (eN p)
 ·rw[if_pos h5] at h;omega
 rw[if_neg h5] at h
 by_cases h6:(p.topology≠1/\(0<p.messages.length\/0<p.values.length\/0<p.resilience.length\/p.fault≠0))\/(p.topology=1/\0<p.leader.length)
 ·rw[if_pos h6] at h;omega
 rw[if_neg h6] at h
 by_cases h7:¬zd p
 ·rw[if_pos h7] at h;omega
 rw[if_neg h7] at h
 have hz:=cI h
 have a1:=hz (if p.initial.length=0 then 1 else 0) (by simp)
 have a2:=hz (jy p) (by simp)
 have a3:=hz (if 3<(ay p.rules).length then 4 else 0) (by simp)
 refine⟨Classical.not_not.1 h1,by omega,by omega,Classical.not_not.1 h5,h6,Classical.not_not.1 h7,⟨hz _ (by simp),?_,hz _ (by simp)⟩,fun i hi=>?_,?_⟩
 ·split at a1<;>omega
 ·exact cI a2 _ (List.mem_map.2 ⟨i,List.mem_range.2 hi,rfl⟩)
 ·split at a3<;>omega
theorem L1 {l:List Int} {n:Int} (h:jX l n=0):(l.length:Int)=n:=by
 unfold jX at h
 split at h<;>omega
theorem Bh {p:av} {i:Nat} {r:cf} (hl:0<p.states.length/\p.states.length<=6/\p.messages.length<=3) (h:da p i r=0):¬tv r:=by
 obtain⟨h1,h2,h3,_,_,h6⟩:=jz h
 have hn:=h1.1.2
 unfold jI at h3
 unfold i7 at h2
 unfold dN at h6
 unfold tv
 have hk:r.kind=1\/r.kind=2\/r.kind=3\/r.kind=4\/r.kind=5:=by omega
 rcases hk with k|k|k|k|k
 ·rw[if_pos k] at h6
  have hz:=cI h6
  have c1:=tE (hz (ci p.messages.length r.guards) (by simp))
  have c2:=bN (hz (ca r.some_ p.states.length) (by simp))
  have c3:=bN (hz (ca r.forall_ p.states.length) (by simp))
  have c4:=bN (hz (ca r.send p.messages.length) (by simp))
  omega
 ·omega
 ·rw[if_neg (by omega),if_neg (by omega),if_pos k] at h6
  have c1:=L1 (cI h6 (jX r.response p.states.length) (by simp))
  omega
 ·rw[if_neg (by omega),if_neg (by omega),if_neg (by omega),if_pos k] at h6
  have hz:=cI h6
  have c1:=bN (hz (ca r.left p.states.length) (by simp))
  have c2:=bN (hz (ca r.right p.states.length) (by simp))
  have c3:=bN (hz (ca r.parent p.states.length) (by simp))
  omega
 ·omega
theorem Em {p:av} (h:qq (eN p)):¬pj p.states/\¬pj p.messages/\¬pj p.values:=by
 have key:∀s∈eN p,s.size<=12:=by
  intro s hs
  obtain⟨j,hj,e⟩:=List.getElem_of_mem hs
  have:=(h j hj).1.1.2
  rwa [gD,gL hj,Option.getD_some,e] at this
 have go:∀l:List ByteArray,(∀s∈l,s∈eN p)->¬pj l:=by
  rintro l hl ⟨j,hj,hlt⟩
  have:=key _ (hl _ (bu (l:=l) t0 hj))
  omega
 refine⟨go _ fun s hs=>?_,go _ fun s hs=>?_,go _ fun s hs=>?_⟩<;>simp[eN,hs]
theorem rV {p:av} (h:aX p=0):¬tw p:=by
 have v:=aN h
 have h1:=v.name.1.2
 have h2:=bN v.ini.1
 have h3:=bN v.ini.2.2
 have h4:=v.len
 obtain⟨n1,n2,n3⟩:=Em v.nms
 have h5:¬∃j,j<p.rules.length/\tv (p.rules.getD j ax):=fun⟨j,hj,hb⟩=>Bh ⟨h4.1,h4.2.1,h4.2.2.1⟩ (v.rul j hj) hb
 unfold tw
 rintro(h|h|h|h|h|h|h|h|h|h|h|h)
 any_goals omega
 all_goals first|exact h5 h|exact n1 h|exact n2 h|exact n3 h
structure QD (p:av) (q:aP):Prop where
 vld:aX p=0
 name:c9 q.name
 kind:q.kind=1\/q.kind=2
 shp:¬((q.kind=1/\0<q.goal.length)\/(q.kind=2/\(0<q.bad.length\/0<q.adjacent.length)))
 start:ca q.start p.states.length=0
 ini:∀j,j<q.start.length->q.start.getD j 0∈p.initial
 goal:q.kind=2->ca q.goal p.states.length=0/\0<q.goal.length
 bad:q.kind=1->q.bad.length<=3/\rj p.states.length q.bad=0/\qv p q.adjacent=0/\¬(q.bad.length=0/\q.adjacent.length=0)
theorem aW {p:av} {q:aP} (h:bD p q=0):QD p q:=by
 unfold bD at h
 by_cases h1:aX p≠0
 ·rw[if_pos h1] at h;omega
 rw[if_neg h1] at h
 by_cases h2:¬c9 q.name
 ·rw[if_pos h2] at h;omega
 rw[if_neg h2] at h
 by_cases h3:q.kind≠1/\q.kind≠2
 ·rw[if_pos h3] at h;omega
 rw[if_neg h3] at h
 by_cases h4:(q.kind=1/\0<q.goal.length)\/(q.kind=2/\(0<q.bad.length\/0<q.adjacent.length))
 ·rw[if_pos h4] at h;omega
 rw[if_neg h4] at h
 by_cases h5:ca q.start p.states.length≠0
 ·rw[if_pos h5] at h;omega
 rw[if_neg h5] at h
 by_cases h6:¬(∀j,j<q.start.length->q.start.getD j 0∈p.initial)
 ·rw[if_pos h6] at h;omega
 rw[if_neg h6] at h
 refine⟨by omega,Classical.not_not.1 h2,by omega,h4,by omega,Classical.not_not.1 h6,fun k=>?_,fun k=>?_⟩
 ·rw[if_pos k] at h
  have hz:=cI h
  have a:=hz (if q.goal.length=0 then 1 else 0) (by simp)
  refine⟨hz _ (by simp),?_⟩
  split at a<;>omega
 ·rw[if_neg (by omega)] at h
  have hz:=cI h
  have a:=hz (if q.bad.length=0/\q.adjacent.length=0 then 1 else 0) (by simp)
  have b:=hz (if 3<q.bad.length then 4 else 0) (by simp)
  refine⟨?_,hz _ (by simp),hz _ (by simp),?_⟩
  ·split at b<;>omega
  ·split at a
   ·omega
   ·assumption
theorem ni {p:av} {q:aP} (h:QD p q) (k:q.kind=1) {j:Nat} (hj:j<q.bad.length):ca (q.bad.getD j b9).states p.states.length=0/\0<(q.bad.getD j b9).states.length/\1<=(q.bad.getD j b9).least/\(q.bad.getD j b9).least<=3:=by
 have hz:=cI (h.bad k).2.1
 have hc:=cI (hz (El p.states.length (q.bad.getD j b9)) (List.mem_map.2 ⟨_,bu _ hj,rfl⟩))
 have a:=hc (if(q.bad.getD j b9).states.length=0\/(q.bad.getD j b9).least<1\/3<(q.bad.getD j b9).least then 1 else 0) (by simp)
 refine⟨hc _ (by simp),?_⟩
 split at a<;>omega
theorem zh {p:av} {q:aP} (h:bD p q=0):¬Bg q:=by
 have v:=aW h
 have h1:=v.name.1.2
 have hs:=(aN v.vld).len
 have h2:=bN v.start
 have h3:q.goal.length<=6:=by
  rcases v.kind with k|k
  ·have:=v.shp;omega
  ·have:=bN (v.goal k).1;omega
 have h4:q.bad.length<=3/\q.adjacent.length<=2:=by
  rcases v.kind with k|k
  ·refine⟨(v.bad k).1,?_⟩
   have ha:=(v.bad k).2.2.1
   unfold qv at ha
   split at ha
   ·omega
   ·split at ha
    ·omega
    ·split at ha<;>omega
  ·have:=v.shp;omega
 have h5:¬∃j,j<q.bad.length/\60<(q.bad.getD j b9).states.length:=by
  rintro⟨j,hj,hb⟩
  rcases v.kind with k|k
  ·have:=bN (ni v k hj).1;omega
  ·have:=v.shp;omega
 unfold Bg
 rintro(h|h|h|h|h|h)
 any_goals omega
 exact h5 h
structure Vb where
 kind:Int
 seg:Int
 idx:Int
theorem tH {a b:Vb} (h1:a.kind=b.kind) (h2:a.seg=b.seg) (h3:a.idx=b.idx):a=b:=by
 cases a;cases b;cases h1;cases h2;cases h3;rfl
instance decVb:DecidableEq Vb:=fun a b=>
 if h:a.kind=b.kind/\a.seg=b.seg/\a.idx=b.idx then isTrue (tH h.1 h.2.1 h.2.2) else isFalse (fun e=>h (by rw[e];exact⟨rfl,rfl,rfl⟩))
def d8:Vb:=⟨0,0,0⟩
def fM (v:Vb):List AV:=[.int .i64 v.kind, .int .i64 v.seg, .int .i64 v.idx]
def dJ (p:av) (q:aP):List Int:=if 0<q.start.length then q.start else p.initial
def iB (r:cf):Prop:=r.kind=1/\r.src<r.dst/\r.some_.length=0/\r.forall_.length=0
instance (r:cf):Decidable (iB r):=inferInstanceAs (Decidable (_/\_))
def mE (p:av):Prop:=p.topology=1/\p.values.length=0/\∀j,j<p.rules.length->iB (p.rules.getD j ax)
instance (p:av):Decidable (mE p):=inferInstanceAs (Decidable (_/\_))
def od (p:av) (q:aP):Prop:=q.kind=2->∀j,j<p.rules.length->(p.rules.getD j ax).src∈q.goal->(p.rules.getD j ax).dst∈q.goal
instance (p:av) (q:aP):Decidable (od p q):=inferInstanceAs (Decidable (_->_))
def uN (rs:List cf):Nat->Nat
 |0=>1
 |k+1=>uN rs k*(1+(rs.getD k ax).guards.length)
def db (p:av) (q:aP):Nat:=if q.kind=2 then uN p.rules p.rules.length else 1
def dq (p:av) (q:aP):Int:=if bD p q≠0 then bD p q else if¬(mE p/\od p q) then 7 else if 64<db p q then 4 else 0
theorem CH (rs:List cf):∀k,0<uN rs k
 |0=>Nat.one_pos
 |k+1=>Nat.mul_pos (CH rs k) (by omega)
theorem Gr {rs:List cf} (h:∀j,j<rs.length->(rs.getD j ax).guards.length<=2):∀k,k<=rs.length->uN rs k<=3^k
 |0,_=>by simp[uN]
 |k+1,hk=>by
  have a:=Gr h k (by omega)
  have b:=h k (by omega)
  rw[uN,Nat.pow_succ]
  exact Nat.mul_le_mul a (by omega)
def dS (n:Nat) (l:List Int):Prop:=∀i,i<l.length->(0<=l.getD i 0/\l.getD i 0<n)/\l.getD i 0∉l.take i
instance (n:Nat) (l:List Int):Decidable (dS n l):=inferInstanceAs (Decidable (∀i,i<l.length->_))
theorem zi {l:List Int} (h:∀i,i<l.length->l.getD i 0∉l.take i):l.Nodup:=by
 rw[List.nodup_iff_pairwise_ne,List.pairwise_iff_getElem]
 intro i j hi hj hij e
 have:=h j hj
 rw[ap 0 hj,<-e] at this
 exact this (List.mem_take_iff_getElem.2 ⟨i,by omega,rfl⟩)
theorem qw:∀{n:Nat} {l:List Int},l.Nodup->(∀x∈l,0<=x/\x<n)->l.length<=n
 |0,l,_,hb=>by
  cases l with
  |nil=>simp
  |cons a l=>have:=hb a (by simp);omega
 |n+1,l,hn,hb=>by
  have h1:(l.erase (n:Int)).length<=n:=qw (hn.erase _) fun x hx=>by
   have a:=hb x (List.mem_of_mem_erase hx)
   have b:x≠n:=fun e=>by subst e;exact(List.Nodup.not_mem_erase hn) hx
   omega
  have h2:l.length<=(l.erase (n:Int)).length+1:=by
   rw[List.length_erase];split<;>omega
  omega
theorem vN {n:Nat} {l:List Int} (h:dS n l):l.Nodup:=zi fun i hi=>(h i hi).2
theorem cu {n:Nat} {l:List Int} (h:dS n l):l.length<=n:=qw (vN h) fun x hx=>by
 obtain⟨i,hi,e⟩:=List.getElem_of_mem hx
 have:=(h i hi).1
 rwa [ap 0 hi,e] at this
def oe (k:Nat):Nat->List Int->List (List Int)
 |0,at_=>[at_]
 |m+1,at_=>at_::(List.range k).flatMap fun i:Nat=>if(i:Int)∈at_ then[] else oe k m (at_++[(i:Int)])
def aO (p:av):List (List Int):=oe (ay p.rules).length (ay p.rules).length []
def uO (rs:List cf) (number:Nat):Nat->Nat
 |0=>number
 |m+1=>uO rs number m / (1+(rs.getD (rs.length-1-m) ax).guards.length)
def Bi (rs:List cf) (number i:Nat):Nat:=uO rs number (rs.length-1-i) % (1+(rs.getD i ax).guards.length)
def rk (p:av) (number:Nat):List Int:=(List.range p.rules.length).map fun i=>(Bi p.rules number i:Int)
theorem lu (p:av) (number:Nat):(rk p number).length=p.rules.length:=by simp[rk]
theorem rX {p:av} {number i:Nat} (h:i<p.rules.length):(rk p number).getD i 0=(Bi p.rules number i:Int):=by
 rw[rk,ap 0 (by simp;exact h)];simp
theorem Bj (rs:List cf) (number i:Nat):Bi rs number i<=(rs.getD i ax).guards.length:=by
 have:=Nat.mod_lt (uO rs number (rs.length-1-i)) (show 0<1+(rs.getD i ax).guards.length by omega)
 unfold Bi;omega
def jZ (p:av):Prop:=p.fault=1\/p.fault=2
instance (p:av):Decidable (jZ p):=inferInstanceAs (Decidable (_\/_))
def En (T:List fH) (sch:List Int) (j:Nat) (r:cf):Prop:=∀g∈r.guards,∃i,i<j/\T.getD (sch.getD i 0).toNat aM=g
instance (T:List fH) (sch:List Int) (j:Nat) (r:cf):Decidable (En T sch j r):=inferInstanceAs (Decidable (∀g∈r.guards,_))
def uD (p:av) (sch:List Int) (j r:Nat):List Vb:=if En (ay p.rules) sch j (p.rules.getD r ax) then(if jZ p then[⟨5,j,r⟩,⟨6,j,r⟩] else[⟨5,j,r⟩]) else[]
def cB (p:av) (sch:List Int) (j k:Nat):List Vb:=(List.range k).flatMap (uD p sch j)
def CI (p:av) (q:aP):List Vb:=(dJ p q).map (fun x=>⟨3,0,x⟩)++(if jZ p then p.initial.map (fun x=>(⟨4,0,x⟩:Vb)) else[])
def az (p:av) (q:aP) (sch:List Int):List Vb:=[⟨0,0,0⟩,⟨1,0,0⟩,⟨2,0,0⟩]++CI p q++(List.range (sch.length+1)).flatMap fun j=>cB p sch j p.rules.length
theorem eK (p:av) (sch:List Int) (j k:Nat):cB p sch j (k+1)=cB p sch j k++uD p sch j k:=by simp[cB,List.range_succ,List.flatMap_append]
theorem JG (p:av) (sch:List Int) (j r:Nat):(uD p sch j r).length<=2:=by unfold uD;split<;>(try split)<;>simp
theorem kA (p:av) (sch:List Int) (j:Nat):∀k,(cB p sch j k).length<=2*k
 |0=>by simp[cB]
 |k+1=>by rw[eK,List.length_append];have:=kA p sch j k;have:=JG p sch j k;omega
theorem tJ (p:av) (sch:List Int) (m:Nat):∀k,((List.range k).flatMap fun j=>cB p sch j m).length<=2*m*k
 |0=>by simp
 |k+1=>by
  rw[List.range_succ,List.flatMap_append,List.length_append]
  have a:=tJ p sch m k
  have b:=kA p sch k m
  simp only[List.flatMap_cons,List.flatMap_nil,List.append_nil]
  rw[Nat.mul_add,Nat.mul_one]
  omega
theorem i8 {p:av} {sch:List Int} {j r:Nat} {v:Vb} (h:v∈uD p sch j r):(v.kind=5\/v.kind=6/\jZ p)/\v.seg=j/\v.idx=r/\En (ay p.rules) sch j (p.rules.getD r ax):=by
 unfold uD at h
 split at h
 ·rename_i ha
  split at h
  ·rename_i hw
   simp only[List.mem_cons,List.not_mem_nil,or_false] at h
   rcases h with rfl|rfl
   ·exact⟨.inl rfl,rfl,rfl,ha⟩
   ·exact⟨.inr ⟨rfl,hw⟩,rfl,rfl,ha⟩
  ·simp only[List.mem_cons,List.not_mem_nil,or_false] at h
   subst h
   exact⟨.inl rfl,rfl,rfl,ha⟩
 ·simp at h
theorem Eo (p:av) (sch:List Int) (j r:Nat):(uD p sch j r).Nodup:=by
 unfold uD
 split
 ·split
  ·simp
  ·simp
 ·simp
theorem iC {p:av} {sch:List Int} {j k:Nat} {v:Vb} (h:v∈cB p sch j k):∃r,r<k/\v∈uD p sch j r:=by
 unfold cB at h
 obtain⟨r,hr,hv⟩:=List.mem_flatMap.1 h
 exact⟨r,List.mem_range.1 hr,hv⟩
theorem tK (p:av) (sch:List Int) (j:Nat):∀k,(cB p sch j k).Nodup
 |0=>by simp[cB]
 |k+1=>by
  rw[eK,List.nodup_append]
  refine⟨tK p sch j k,Eo p sch j k,fun a ha b hb e=>?_⟩
  obtain⟨r,hr,ha⟩:=iC ha
  have:=(i8 ha).2.2.1
  have:=(i8 hb).2.2.1
  subst e
  omega
theorem tL (p:av) (sch:List Int) (m:Nat):∀k,((List.range k).flatMap fun j=>cB p sch j m).Nodup
 |0=>by simp
 |k+1=>by
  rw[List.range_succ,List.flatMap_append,List.nodup_append]
  simp only[List.flatMap_cons,List.flatMap_nil,List.append_nil]
  refine⟨tL p sch m k,tK p sch k m,fun a ha b hb e=>?_⟩
  obtain⟨j,hj,ha⟩:=List.mem_flatMap.1 ha
  have hj:=List.mem_range.1 hj
  obtain⟨r,_,ha⟩:=iC ha
  obtain⟨r',_,hb⟩:=iC hb
  have:=(i8 ha).2.1
  have:=(i8 hb).2.1
  subst e
  omega
theorem qx {l:List Int} {n:Int} (h:ca l n=0):l.Nodup:=by
 obtain⟨_,h2⟩:=pn h
 have key:∀(k i:Nat),i<k->k<l.length->l.getD i 0<l.getD k 0:=by
  intro k
  induction k with
  |zero=>intro i hi;omega
  |succ k ih=>
   intro i hi hk
   have h1:=h2 (k+1) hk (by omega)
   rw[Nat.add_sub_cancel] at h1
   by_cases e:i=k
   ·subst e;exact h1
   ·have:=ih i (by omega) (by omega);omega
 rw[List.nodup_iff_pairwise_ne,List.pairwise_iff_getElem]
 intro i j hi hj hij e
 have:=key j i hij hj
 rw[ap 0 hi,ap 0 hj,e] at this
 omega
theorem vO {l:List Int} {f:Int->Vb} (h:l.Nodup) (hf:∀a b,f a=f b->a=b):(l.map f).Nodup:=by
 rw[List.nodup_iff_pairwise_ne] at*
 exact List.pairwise_map.2 (h.imp fun hab e=>hab (hf _ _ e))
theorem og {p:av} {q:aP} (h:bD p q=0) (sch:List Int):(az p q sch).Nodup:=by
 have v:=aW h
 have hs:(dJ p q).Nodup:=by
  unfold dJ;split
  ·exact qx v.start
  ·exact qx (aN v.vld).ini.1
 have hst:(CI p q).Nodup:=by
  unfold CI
  rw[List.nodup_append]
  refine⟨vO hs fun a b e=>by injection e,?_,fun a ha b hb e=>?_⟩
  ·split
   ·exact vO (qx (aN v.vld).ini.1) fun a b e=>by injection e
   ·simp
  ·obtain⟨x,_,rfl⟩:=List.mem_map.1 ha
   split at hb
   ·obtain⟨y,_,rfl⟩:=List.mem_map.1 hb
    injection e with e1
    omega
   ·simp at hb
 have hk:∀a∈CI p q,a.kind=3\/a.kind=4:=by
  intro a ha
  unfold CI at ha
  rcases List.mem_append.1 ha with ha|ha
  ·obtain⟨x,_,rfl⟩:=List.mem_map.1 ha;exact .inl rfl
  ·split at ha
   ·obtain⟨x,_,rfl⟩:=List.mem_map.1 ha;exact .inr rfl
   ·simp at ha
 have hk2:∀a∈((List.range (sch.length+1)).flatMap fun j=>cB p sch j p.rules.length),a.kind=5\/a.kind=6:=by
  intro a ha
  obtain⟨j,_,ha⟩:=List.mem_flatMap.1 ha
  obtain⟨r,_,ha⟩:=iC ha
  have:=(i8 ha).1
  omega
 unfold az
 rw[List.nodup_append,List.nodup_append]
 refine⟨⟨by simp,hst,fun a ha b hb e=>?_⟩,tL p sch _ _,fun a ha b hb e=>?_⟩
 ·subst e
  have:=hk a hb
  simp only[List.mem_cons,List.not_mem_nil,or_false] at ha
  rcases ha with rfl|rfl|rfl<;>simp at this
 ·subst e
  have h2:=hk2 a hb
  rcases List.mem_append.1 ha with ha|ha
  ·simp only[List.mem_cons,List.not_mem_nil,or_false] at ha
   rcases ha with rfl|rfl|rfl<;>simp at h2
  ·have:=hk a ha;omega
theorem JH {p:av} {q:aP} (h:bD p q=0):(CI p q).length<=12:=by
 have v:=aW h
 have w:=aN v.vld
 have a:=bN v.start
 have b:=bN w.ini.1
 have c:=w.len
 unfold CI dJ
 rw[List.length_append,List.length_map]
 split<;>split<;>simp<;>omega
theorem iE {p:av} {q:aP} (h:bD p q=0) {sch:List Int} (hs:dS (ay p.rules).length sch):(az p q sch).length<=79:=by
 have w:=aN (aW h).vld
 have a:=JH h
 have b:=tJ p sch p.rules.length (sch.length+1)
 have c:=cu hs
 have d:=w.thr
 have e:=w.len
 have f:2*p.rules.length*(sch.length+1)<=16*4:=Nat.mul_le_mul (by omega) (by omega)
 unfold az
 rw[List.length_append,List.length_append]
 simp only[List.length_cons,List.length_nil]
 omega
abbrev Co:=Vb->Int
def zC:Co:=fun _=>0
def fq (c:Co) (v0:Vb) (k:Int):Co:=fun v=>if v=v0 then c v+k else c v
theorem nj (c:Co) (v:Vb) (k:Int):fq c v k v=c v+k:=by simp[fq]
theorem po (c:Co) {v v0:Vb} (k:Int) (h:v≠v0):fq c v0 k v=c v:=by simp[fq,h]
theorem df (c:Co) {vars:List Vb} {m:Nat} (hm:m<vars.length):(vars.map c).getD m 0=c (vars.getD m d8):=by
 rw[ap 0 (by simpa using hm),ap d8 hm,List.getElem_map]
theorem Gs (c:Co) {vars:List Vb} {v0:Vb} (k:Int) (h:v0∉vars):vars.map (fq c v0 k)=vars.map c:=
 List.map_congr_left fun v hv=>po c k fun e=>h (e▸hv)
theorem JI (c:Co) {vars:List Vb} {m:Nat} (k:Int) (hn:vars.Nodup) (hm:m<vars.length):(vars.map c).set m (c (vars.getD m d8)+k)=vars.map (fq c (vars.getD m d8) k):=by
 generalize e0:vars.getD m d8=v0
 have e0:vars[m]=v0:=by rw[<-e0,ap d8 hm]
 apply List.ext_getElem
 ·simp
 ·intro i h1 h2
  rw[List.getElem_set,List.getElem_map]
  by_cases e:m=i
  ·subst e;rw[if_pos rfl,List.getElem_map,e0,nj]
  ·rw[if_neg e,List.getElem_map,po]
   exact fun e2=>e ((List.getElem_inj hn).1 (e0.trans e2.symm))
noncomputable def qy (vars:List Vb) (kind:Int):Nat->Int×Int->Option Int
 |0=>fun _=>none
 |n+1=>if(vars.getD n d8).kind=kind then uK (qy vars kind n) ((vars.getD n d8).seg,(vars.getD n d8).idx) (n:Int) else qy vars kind n
theorem tM {vars:List Vb} {kind s i:Int}:∀{n:Nat} {j:Int},qy vars kind n (s,i)=some j->∃m:Nat,j=m/\m<n/\vars.getD m d8=⟨kind,s,i⟩
 |0,j,h=>by cases h
 |n+1,j,h=>by
  rw[qy] at h
  split at h
  ·rename_i hk
   by_cases e:(s,i)=((vars.getD n d8).seg,(vars.getD n d8).idx)
   ·rw[e,g9] at h
    cases h
    injection e with e1 e2
    exact⟨n,rfl,by omega,tH hk e1.symm e2.symm⟩
   ·rw[jP _ _ e] at h
    obtain⟨m,a,b,c⟩:=tM h
    exact⟨m,a,by omega,c⟩
  ·obtain⟨m,a,b,c⟩:=tM h
   exact⟨m,a,by omega,c⟩
theorem tO {vars:List Vb} {kind s i:Int}:∀{n:Nat},qy vars kind n (s,i)=none->∀m,m<n->vars.getD m d8≠⟨kind,s,i⟩
 |0,_,m,hm=>by omega
 |n+1,h,m,hm=>by
  rw[qy] at h
  by_cases e:m=n
  ·subst e
   intro e2
   rw[e2,if_pos rfl,g9] at h
   cases h
  ·split at h
   ·rename_i hk
    by_cases e:(s,i)=((vars.getD n d8).seg,(vars.getD n d8).idx)
    ·rw[e,g9] at h;cases h
    ·rw[jP _ _ e] at h
     exact tO h m (by omega)
   ·exact tO h m (by omega)
theorem Ep {vars:List Vb} {kind s i:Int} (h:qy vars kind vars.length (s,i)=none):(⟨kind,s,i⟩:Vb)∉vars:=by
 intro hm
 obtain⟨m,hm,e⟩:=List.getElem_of_mem hm
 exact tO h m hm (by rw[ap d8 hm,e])
def bH (l:lp):Co:=fun v=>if v=⟨0,0,0⟩ then l.n else if v=⟨1,0,0⟩ then l.t else if v=⟨2,0,0⟩ then l.f else 0
def bo (c:Co) (k:Int) (d:Co):Co:=fun v=>c v+k*d v
def fY (n:Nat) (fire:Int) (j i:Nat) (v:Vb):Prop:=v.kind=fire/\0<=v.seg/\0<=v.idx/\(v.seg<j/\v.idx<n\/v.seg=j/\v.idx<i)
instance (n:Nat) (fire:Int) (j i:Nat) (v:Vb):Decidable (fY n fire j i v):=inferInstanceAs (Decidable (_/\_))
def NB (rs:List cf) (state:Int) (v:Vb):Int:=(if(rs.getD v.idx.toNat ax).dst=state then 1 else 0)-(if(rs.getD v.idx.toNat ax).src=state then 1 else 0)
def dE (rs:List cf) (start fire state:Int) (j i:Nat):Co:=fun v=>(if v=⟨start,0,state⟩ then 1 else 0)+if fY rs.length fire j i v then NB rs state v else 0
def c7 (rs:List cf) (fire message:Int) (j i:Nat):Co:=fun v=>if fY rs.length fire j i v/\message∈(rs.getD v.idx.toNat ax).send then 1 else 0
theorem pp (n:Nat) (fire:Int) (j i:Nat) (v:Vb):fY n fire j (i+1) v↔fY n fire j i v\/v=⟨fire,j,i⟩:=by
 unfold fY
 constructor
 ·rintro⟨h1,h2,h3,h4⟩
  by_cases e:v.seg=j/\v.idx=i
  ·exact .inr (tH h1 e.1 e.2)
  ·exact .inl ⟨h1,h2,h3,by omega⟩
 ·rintro(⟨h1,h2,h3,h4⟩|rfl)
  ·exact⟨h1,h2,h3,by omega⟩
  ·refine⟨rfl,?_,?_,?_⟩<;>dsimp only<;>omega
theorem w9 (n:Nat) (fire:Int) (j i:Nat):¬fY n fire j i ⟨fire,j,i⟩:=by unfold fY;dsimp only;omega
theorem CJ (n:Nat) (fire:Int) (j:Nat) (v:Vb):fY n fire j n v↔fY n fire (j+1) 0 v:=by unfold fY;omega
theorem JJ (rs:List cf) (start fire state:Int) (j:Nat):dE rs start fire state j rs.length=dE rs start fire state (j+1) 0:=by
 funext v;unfold dE;simp only[CJ]
theorem JK (rs:List cf) (fire message:Int) (j:Nat):c7 rs fire message j rs.length=c7 rs fire message (j+1) 0:=by
 funext v;unfold c7;simp only[CJ]
theorem Gt (rs:List cf) (start fire state:Int) (j i:Nat) (v:Vb):-1<=dE rs start fire state j i v/\dE rs start fire state j i v<=2:=by
 unfold dE NB
 (repeat' split)<;>omega
theorem vP (rs:List cf) (fire message:Int) (j i:Nat) (v:Vb):0<=c7 rs fire message j i v/\c7 rs fire message j i v<=1:=by
 unfold c7
 split<;>omega
theorem Gu (rs:List cf) (fire message:Int) (j i:Nat) (c:Co) (k:Int):bo c k (c7 rs fire message j (i+1))=if message∈(rs.getD i ax).send then fq (bo c k (c7 rs fire message j i)) ⟨fire,j,i⟩ k else bo c k (c7 rs fire message j i):=by
 funext v
 by_cases e:v=⟨fire,j,i⟩
 ·subst e
  by_cases hm:message∈(rs.getD i ax).send
  ·rw[if_pos hm,nj]
   unfold bo c7
   rw[if_pos ⟨(pp _ _ _ _ _).2 (.inr rfl),by simpa using hm⟩,if_neg (fun h=>w9 _ _ _ _ h.1)]
   omega
  ·rw[if_neg hm]
   unfold bo c7
   rw[if_neg (fun h=>hm (by simpa using h.2)),if_neg (fun h=>w9 _ _ _ _ h.1)]
 ·have a:fY rs.length fire j (i+1) v↔fY rs.length fire j i v:=by rw[pp];simp[e]
  have b:bo c k (c7 rs fire message j (i+1)) v=bo c k (c7 rs fire message j i) v:=by unfold bo c7;simp only[a]
  rw[b]
  split
  ·rw[po _ _ e]
  ·rfl
def Gv (rs:List cf) (c:Co) (k state fire:Int) (j i:Nat):Co:=
 let c1:=if(rs.getD i ax).dst=state then fq c ⟨fire,j,i⟩ k else c
 if(rs.getD i ax).src=state then fq c1 ⟨fire,j,i⟩ (-k) else c1
theorem Gw (rs:List cf) (start fire state:Int) (j i:Nat) (c:Co) (k:Int):bo c k (dE rs start fire state j (i+1))=Gv rs (bo c k (dE rs start fire state j i)) k state fire j i:=by
 funext v
 unfold Gv
 by_cases e:v=⟨fire,j,i⟩
 ·subst e
  have h1:=(pp rs.length fire j i ⟨fire,j,i⟩).2 (.inr rfl)
  have h2:=w9 rs.length fire j i
  have e2:(⟨fire,j,i⟩:Vb).idx.toNat=i:=by simp
  have key:bo c k (dE rs start fire state j (i+1)) ⟨fire,j,i⟩=bo c k (dE rs start fire state j i) ⟨fire,j,i⟩+k*NB rs state ⟨fire,j,i⟩:=by
   unfold bo dE
   rw[if_pos h1,if_neg h2,Int.mul_add,Int.mul_add]
   omega
  rw[key]
  unfold NB
  rw[e2]
  by_cases hd:(rs.getD i ax).dst=state<;>by_cases hs:(rs.getD i ax).src=state<;>simp only[hd,hs,if_pos,if_neg,if_true,if_false,nj,not_false_eq_true]<;>omega
 ·have a:fY rs.length fire j (i+1) v↔fY rs.length fire j i v:=by rw[pp];simp[e]
  have b:bo c k (dE rs start fire state j (i+1)) v=bo c k (dE rs start fire state j i) v:=by unfold bo dE;simp only[a]
  rw[b]
  split<;>split<;>simp only[po _ _ e]
theorem JL (c:Co) (k:Int) (l:lp):fq (fq (fq c ⟨0,0,0⟩ (k*l.n)) ⟨1,0,0⟩ (k*l.t)) ⟨2,0,0⟩ (k*l.f)=bo c k (bH l):=by
 funext v
 unfold fq bo bH
 by_cases h0:v=⟨0,0,0⟩
 ·subst h0;simp
 ·by_cases h1:v=⟨1,0,0⟩
  ·subst h1;simp
  ·by_cases h2:v=⟨2,0,0⟩
   ·subst h2;simp
   ·simp[h0,h1,h2]
def tP (kind:Int) (n:Nat):Co:=fun v=>if v.kind=kind/\v.seg=0/\0<=v.idx/\v.idx<n then 1 else 0
theorem JM (kind:Int) (n:Nat) (c:Co) (k:Int):bo c k (tP kind (n+1))=fq (bo c k (tP kind n)) ⟨kind,0,n⟩ k:=by
 funext v
 by_cases e:v=⟨kind,0,n⟩
 ·subst e
  rw[nj]
  unfold bo tP
  rw[if_pos ⟨rfl,rfl,by dsimp only;omega,by dsimp only;omega⟩,if_neg (by dsimp only;omega)]
  omega
 ·rw[po _ _ e]
  unfold bo tP
  have h:(v.kind=kind/\v.seg=0/\0<=v.idx/\v.idx<(n+1:Nat))↔(v.kind=kind/\v.seg=0/\0<=v.idx/\v.idx<n):=by
   constructor
   ·intro h
    have:v.idx≠n:=fun h2=>e (tH h.1 h.2.1 h2)
    omega
   ·intro h;omega
  simp only[h]
abbrev Rw:=Co×Int
def aQ (vars:List Vb) (r:Rw):aV:=⟨vars.map r.1,r.2⟩
def qz (l:lp):Rw:=(bH l,l.c)
def jK (kind:Int) (n:Nat) (k:Int) (l:lp):Rw:=(bo (bo zC k (tP kind n)) (-k) (bH l),-k*l.c)
def qA (p:av) (g:fH) (j:Nat):Rw:=
 let c1:=bo (bo zC g.coef (c7 p.rules 5 g.message j 0)) g.coef (c7 p.rules 6 g.message j 0)
 let c2:=if p.fault=3 then fq c1 ⟨2,0,0⟩ g.coef else c1
 (bo c2 (-1) (bH g.bound),-g.bound.c)
def Er (p:av) (start fire:Int) (x j:Nat):Rw:=(bo zC 1 (dE p.rules start fire x (j+1) 0),0)
def uP (p:av) (seg:Nat) (states:List Int) (least:Int):Rw:=(states.foldl (fun c x=>bo c 1 (dE p.rules 3 5 x (seg+1) 0)) zC,-least)
def rF (p:av) (seg:Nat) (r:cf) (ch:Int):Rw:=
 if ch=0 then(bo zC (-1) (dE p.rules 3 5 r.src (seg+1) 0),0)
 else
  let g:=r.guards.getD (ch-1).toNat aM
  let c1:=bo zC (-g.coef) (c7 p.rules 5 g.message (seg+1) 0)
  let c2:=if p.fault=1 then bo c1 (-g.coef) (c7 p.rules 6 g.message (seg+1) 0) else c1
  (bo c2 1 (bH g.bound),g.bound.c-1)
def i9 (p:av):List lp:=[⟨-1,1,0,0⟩,⟨0,1,-1,0⟩,⟨0,1,0,-1⟩]++(if p.fault=0 then[⟨0,0,-1,0⟩,⟨0,0,0,-1⟩] else[])++p.resilience
def oh (p:av):List Rw:=[jK 3 p.states.length 1 ⟨0,1,0,-1⟩,jK 3 p.states.length (-1) ⟨0,1,0,-1⟩]++if jZ p then[jK 4 p.states.length 1 ⟨0,0,0,1⟩,jK 4 p.states.length (-1) ⟨0,0,0,1⟩] else[]
def oi (p:av) (sch:List Int) (j:Nat):List Rw:=
 (if 0<j then[qA p ((ay p.rules).getD (sch.getD (j-1) 0).toNat aM) j] else[])++((List.range p.states.length).map fun x=>Er p 3 5 x j)++(if jZ p then(List.range p.states.length).map fun x=>Er p 4 6 x j else[])
def Bk (p:av) (q:aP):List Int:=((List.range p.states.length).map fun x:Nat=>(x:Int)).filter fun x=>decide (x∉q.goal)
def oj (p:av) (q:aP) (seg number:Nat):List Rw:=
 if q.kind=1 then q.bad.map fun c=>uP p seg c.states c.least
 else uP p seg (Bk p q) 1::(List.range p.rules.length).map fun i=>rF p seg (p.rules.getD i ax) ((rk p number).getD i 0)
def tQ (p:av) (q:aP) (sch:List Int) (number:Int):List Rw:=
 (i9 p).map qz++oh p++((List.range (sch.length+1)).flatMap (oi p sch))++if 0<=number then oj p q sch.length number.toNat else[]
def gy (p:av) (q:aP) (sch:List Int) (number:Int):List aV:=(tQ p q sch number).map (aQ (az p q sch))
def Po (p:av) (sch:List Int) (v:Vb):Prop:=
 (v=⟨0,0,0⟩\/v=⟨1,0,0⟩\/v=⟨2,0,0⟩)\/((v.kind=3\/v.kind=4/\jZ p)/\v.seg=0/\0<=v.idx/\v.idx<p.states.length)\/
 ((v.kind=5\/v.kind=6/\jZ p)/\(0<=v.seg/\v.seg<=sch.length)/\0<=v.idx/\v.idx<p.rules.length)
theorem Bl {l:List Int} {n:Int} (h:ca l n=0):∀x∈l,0<=x/\x<n:=by
 intro x hx
 obtain⟨i,hi,e⟩:=List.getElem_of_mem hx
 have:=(pn h).1 i hi
 rwa [ap 0 hi,e] at this
theorem Oq {p:av} {q:aP} (h:bD p q=0):∀x∈dJ p q,0<=x/\x<p.states.length:=by
 have v:=aW h
 unfold dJ
 split
 ·exact Bl v.start
 ·exact Bl (aN v.vld).ini.1
theorem ef {p:av} {q:aP} {sch:List Int} (h:bD p q=0) {v:Vb} (hv:v∈az p q sch):Po p sch v:=by
 unfold az at hv
 rcases List.mem_append.1 hv with hv|hv
 ·rcases List.mem_append.1 hv with hv|hv
  ·simp only[List.mem_cons,List.not_mem_nil,or_false] at hv
   exact .inl hv
  ·right;left
   unfold CI at hv
   rcases List.mem_append.1 hv with hv|hv
   ·obtain⟨x,hx,rfl⟩:=List.mem_map.1 hv
    exact⟨.inl rfl,rfl,Oq h x hx⟩
   ·split at hv
    ·rename_i hw
     obtain⟨x,hx,rfl⟩:=List.mem_map.1 hv
     exact⟨.inr ⟨rfl,hw⟩,rfl,Bl (aN (aW h).vld).ini.1 x hx⟩
    ·simp at hv
 ·right;right
  obtain⟨j,hj,hv⟩:=List.mem_flatMap.1 hv
  have hj:=List.mem_range.1 hj
  obtain⟨r,hr,hv⟩:=iC hv
  obtain⟨a,b,c,_⟩:=i8 hv
  exact⟨a,by omega,by omega⟩
def bO (rs:List cf) (start fire state:Int) (seg:Nat):Co:=fun v=>
 if v.kind=fire/\v.seg<=seg/\(rs.getD v.idx.toNat ax).src=state then -1
 else if v.kind=fire/\v.seg<=seg/\(rs.getD v.idx.toNat ax).dst=state then 1
 else if v.kind=start/\v.idx=state then 1 else 0
def bJ (rs:List cf) (fire message:Int) (seg:Nat):Co:=fun v=>if v.kind=fire/\v.seg<seg/\message∈(rs.getD v.idx.toNat ax).send then 1 else 0
def x9 (kind:Int):Co:=fun v=>if v.kind=kind then 1 else 0
section
variable {p:av} {sch:List Int} {v:Vb}
theorem tR (ht:mE p) (hk:Po p sch v) {start fire state:Int} {seg:Nat} (hs:start=3/\fire=5\/start=4/\fire=6):bO p.rules start fire state seg v=dE p.rules start fire state (seg+1) 0 v:=by
 have hv:v=⟨start,0,state⟩↔v.kind=start/\v.seg=0/\v.idx=state:=⟨fun e=>by subst e;exact⟨rfl,rfl,rfl⟩,fun e=>tH e.1 e.2.1 e.2.2⟩
 unfold bO dE NB
 by_cases hf:v.kind=fire
 ·have hne:¬v=⟨start,0,state⟩:=fun e=>by have:=hv.1 e;omega
  rw[if_neg hne]
  have h5:(0<=v.seg/\v.seg<=sch.length)/\0<=v.idx/\v.idx<p.rules.length:=by
   rcases hk with (rfl|rfl|rfl)|hk|hk
   ·dsimp only at hf;omega
   ·dsimp only at hf;omega
   ·dsimp only at hf;omega
   ·omega
   ·exact hk.2
  have hrise:=(ht.2.2 v.idx.toNat (by omega)).2.1
  by_cases hseg:v.seg<=seg
  ·rw[if_pos (show fY p.rules.length fire (seg+1) 0 v from⟨hf,by omega,by omega,by omega⟩)]
   by_cases h1:(p.rules.getD v.idx.toNat ax).src=state
   ·rw[if_pos ⟨hf,hseg,h1⟩,if_pos h1,if_neg (by omega)];rfl
   ·rw[if_neg (fun h=>h1 h.2.2),if_neg h1]
    by_cases h2:(p.rules.getD v.idx.toNat ax).dst=state
    ·rw[if_pos ⟨hf,hseg,h2⟩,if_pos h2];rfl
    ·rw[if_neg (fun h=>h2 h.2.2),if_neg h2,if_neg (by omega)];rfl
  ·rw[if_neg (fun h=>hseg h.2.1),if_neg (fun h=>hseg h.2.1),if_neg (by omega),if_neg (fun h:fY p.rules.length fire (seg+1) 0 v=>by unfold fY at h;omega)]
   rfl
 ·rw[if_neg (fun h=>hf h.1),if_neg (fun h=>hf h.1),if_neg (fun h:fY p.rules.length fire (seg+1) 0 v=>hf h.1)]
  by_cases h1:v.kind=start
  ·have h0:v.seg=0:=by
    rcases hk with (rfl|rfl|rfl)|hk|hk
    ·rfl
    ·rfl
    ·rfl
    ·exact hk.2.1
    ·omega
   by_cases h2:v.idx=state
   ·rw[if_pos ⟨h1,h2⟩,if_pos (hv.2 ⟨h1,h0,h2⟩)];rfl
   ·rw[if_neg (fun h=>h2 h.2),if_neg (fun h=>h2 (hv.1 h).2.2)];rfl
  ·rw[if_neg (fun h=>h1 h.1),if_neg (fun h=>h1 (hv.1 h).1)];rfl
theorem mF (hk:Po p sch v) {fire message:Int} {seg:Nat} (hs:fire=5\/fire=6):bJ p.rules fire message seg v=c7 p.rules fire message seg 0 v:=by
 unfold bJ c7
 have:(v.kind=fire/\v.seg<seg/\message∈(p.rules.getD v.idx.toNat ax).send)↔(fY p.rules.length fire seg 0 v/\message∈(p.rules.getD v.idx.toNat ax).send):=by
  unfold fY
  constructor
  ·rintro⟨h1,h2,h3⟩
   rcases hk with (rfl|rfl|rfl)|hk|hk
   ·dsimp only at h1;omega
   ·dsimp only at h1;omega
   ·dsimp only at h1;omega
   ·omega
   ·exact⟨⟨h1,hk.2.1.1,hk.2.2.1, .inl ⟨h2,hk.2.2.2⟩⟩,h3⟩
  ·rintro⟨⟨h1,h2,h3,h4⟩,h5⟩
   exact⟨h1,by omega,h5⟩
 simp only[this]
theorem CK (hk:Po p sch v) {kind:Int} (hs:kind=3\/kind=4):x9 kind v=tP kind p.states.length v:=by
 unfold x9 tP
 have:v.kind=kind↔(v.kind=kind/\v.seg=0/\0<=v.idx/\v.idx<p.states.length):=by
  refine⟨fun h=>?_,fun h=>h.1⟩
  rcases hk with (rfl|rfl|rfl)|hk|hk
  ·dsimp only at h;omega
  ·dsimp only at h;omega
  ·dsimp only at h;omega
  ·exact⟨h,hk.2⟩
  ·omega
 simp only[<-this]
end
theorem PN (l:lp) (vs:List Vb) (h:∀v∈vs,v≠⟨0,0,0⟩/\v≠⟨1,0,0⟩/\v≠⟨2,0,0⟩):(([⟨0,0,0⟩,⟨1,0,0⟩,⟨2,0,0⟩]:List Vb)++vs).map (bH l)=[l.n,l.t,l.f]++List.replicate vs.length 0:=by
 rw[List.map_append]
 congr 1
 rw[List.eq_replicate_iff]
 refine⟨by simp,fun x hx=>?_⟩
 obtain⟨v,hv,rfl⟩:=List.mem_map.1 hx
 obtain⟨a,b,c⟩:=h v hv
 simp[bH,a,b,c]
theorem JN {p:av} {q:aP} {sch:List Int} (h:bD p q=0) (l:lp):(az p q sch).map (bH l)=[l.n,l.t,l.f]++List.replicate ((az p q sch).length-3) 0:=by
 have e:az p q sch=[⟨0,0,0⟩,⟨1,0,0⟩,⟨2,0,0⟩]++(CI p q++(List.range (sch.length+1)).flatMap fun j=>cB p sch j p.rules.length):=by unfold az;rw[List.append_assoc]
 have hn:=og h sch
 rw[e] at hn⊢
 rw[PN]
 ·rfl
 ·intro v hv
  rw[List.nodup_append] at hn
  have:=hn.2.2
  refine⟨fun e2=>?_,fun e2=>?_,fun e2=>?_⟩
  ·exact this ⟨0,0,0⟩ (by simp) v hv e2.symm
  ·exact this ⟨1,0,0⟩ (by simp) v hv e2.symm
  ·exact this ⟨2,0,0⟩ (by simp) v hv e2.symm
def L3 (rs:List cf) (ns:Nat):List Int:=(List.range ns).flatMap fun x:Nat=>((List.range rs.length).filter fun r=>decide ((rs.getD r ax).src=(x:Int))).map fun r:Nat=>(r:Int)
end
section
set_option maxRecDepth 100000
section
variable (k:Int->Int)
def Es (a b:Int):Prop:=k a<k b\/(k a=k b/\a<b)
def Gx (ns n:Nat):List Int:=(List.range ns).flatMap fun x:Nat=>((List.range n).filter fun r:Nat=>decide (k (r:Int)=(x:Int))).map fun r:Nat=>(r:Int)
end
section
variable {k:Int->Int}
theorem Gy:∀{l m:List Int},l.Pairwise (Es k)->m.Pairwise (Es k)->(∀x,x∈l↔x∈m)->l=m
 |[],[],_,_,_=>rfl
 |[],b::m,_,_,h=>by have:=(h b).2 List.mem_cons_self;cases this
 |a::l,[],_,_,h=>by have:=(h a).1 List.mem_cons_self;cases this
 |a::l,b::m,h1,h2,h=>by
  rw[List.pairwise_cons] at h1 h2
  have e:a=b:=by
   rcases List.mem_cons.1 ((h a).1 List.mem_cons_self) with e|ha
   ·exact e
   ·rcases List.mem_cons.1 ((h b).2 List.mem_cons_self) with e|hb
    ·exact e.symm
    ·have x:=h2.1 a ha
     have y:=h1.1 b hb
     unfold Es at x y
     omega
  subst e
  have irr:¬Es k a a:=by unfold Es;omega
  rw[Gy h1.2 h2.2 fun x=>⟨fun hx=>?_,fun hx=>?_⟩]
  ·rcases List.mem_cons.1 ((h x).1 (List.mem_cons_of_mem _ hx)) with rfl|hm
   ·exact absurd (h1.1 _ hx) irr
   ·exact hm
  ·rcases List.mem_cons.1 ((h x).2 (List.mem_cons_of_mem _ hx)) with rfl|hm
   ·exact absurd (h2.1 _ hx) irr
   ·exact hm
theorem Gz {ns n:Nat} (h:∀r:Nat,r<n->0<=k r/\k r<ns) (x:Int):x∈Gx k ns n↔∃r:Nat,r<n/\x=r:=by
 unfold Gx
 simp only[List.mem_flatMap,List.mem_map,List.mem_filter,List.mem_range,decide_eq_true_eq]
 constructor
 ·rintro⟨_,_,r,⟨hr,_⟩,rfl⟩;exact⟨r,hr,rfl⟩
 ·rintro⟨r,hr,rfl⟩
  have:=h r hr
  exact⟨(k r).toNat,by omega,r,⟨hr,by omega⟩,rfl⟩
theorem JO (ns n:Nat):(Gx k ns n).Pairwise (Es k):=by
 unfold Gx
 rw[List.pairwise_flatMap]
 refine⟨fun x _=>?_,?_⟩
 ·rw[List.pairwise_map]
  have h0:(List.range n).Pairwise (·<·):=List.pairwise_lt_range
  refine(List.Pairwise.filter _ h0).imp_of_mem fun{a b} ha hb hab=>?_
  have ha:=(List.mem_filter.1 ha).2
  have hb:=(List.mem_filter.1 hb).2
  simp only[decide_eq_true_eq] at ha hb
  unfold Es
  omega
 ·have h0:(List.range ns).Pairwise (·<·):=List.pairwise_lt_range
  refine h0.imp fun{a b} hab x hx y hy=>?_
  obtain⟨r,hr,rfl⟩:=List.mem_map.1 hx
  obtain⟨s,hs,rfl⟩:=List.mem_map.1 hy
  have hr:=(List.mem_filter.1 hr).2
  have hs:=(List.mem_filter.1 hs).2
  simp only[decide_eq_true_eq] at hr hs
  unfold Es
  omega
structure CL (k:Int->Int) (i:Nat) (L:List Int):Prop where
 len:L.length=i
 pw:L.Pairwise (Es k)
 mem:∀x,x∈L↔∃r:Nat,r<i/\x=r
theorem CL.one:CL k 1 [0]:=⟨rfl,by simp,fun x=>by
 rw[List.mem_singleton]
 exact⟨fun h=>⟨0,by omega,h⟩,fun⟨r,hr,h⟩=>by rw[h,show r=0 by omega];rfl⟩⟩
theorem CL.ext {n ns:Nat} {L:List Int} (h:CL k n L) (hk:∀r:Nat,r<n->0<=k r/\k r<ns):L=Gx k ns n:=
 Gy h.pw (JO ns n) fun x=>by rw[h.mem,Gz hk]
theorem CL.next {i j:Nat} {L:List Int} (h:CL k i L) (hj:j<=i) (h1:∀x∈L.drop j,k i<k x) (h2:j=0\/k (L.getD (j-1) 0)<=k i):CL k (i+1) (L.take j++[(i:Int)]++L.drop j):=by
 have hl:=h.len
 have hsplit:L.take j++L.drop j=L:=List.take_append_drop j L
 have hpw:(L.take j++L.drop j).Pairwise (Es k):=by rw[hsplit];exact h.pw
 rw[List.pairwise_append] at hpw
 have hlow:∀x∈L.take j,Es k x i:=by
  intro x hx
  have hxi:x<i:=by
   obtain⟨r,hr,rfl⟩:=(h.mem x).1 (List.mem_of_mem_take hx)
   omega
  obtain⟨a,ha,e⟩:=List.mem_take_iff_getElem.1 hx
  have hj0:j≠0:=by omega
  have h2:=h2.resolve_left hj0
  rw[ap 0 (by omega)] at h2
  have hle:k x<=k (L[j-1]'(by omega)):=by
   by_cases e2:a=j-1
   ·subst e2;rw[<-e];exact Int.le_refl _
   ·have:=List.pairwise_iff_getElem.1 h.pw a (j-1) (by omega) (by omega) (by omega)
    rw[e] at this
    unfold Es at this
    omega
  unfold Es
  omega
 refine⟨?_,?_,fun x=>?_⟩
 ·simp only[List.length_append,List.length_take,List.length_cons,List.length_nil,List.length_drop]
  omega
 ·rw[List.pairwise_append,List.pairwise_append]
  refine⟨⟨hpw.1,by simp,fun x hx y hy=>?_⟩,hpw.2.1,fun x hx y hy=>?_⟩
  ·rw[List.mem_singleton] at hy;subst hy;exact hlow x hx
  ·rcases List.mem_append.1 hx with hx|hx
   ·exact hpw.2.2 x hx y hy
   ·rw[List.mem_singleton] at hx;subst hx
    exact .inl (h1 y hy)
 ·rw[List.mem_append,List.mem_append,List.mem_singleton]
  have hm:(x∈L.take j\/x∈L.drop j)↔x∈L:=by rw[<-List.mem_append,hsplit]
  constructor
  ·rintro((hx|rfl)|hx)
   ·obtain⟨r,hr,e⟩:=(h.mem x).1 (hm.1 (.inl hx));exact⟨r,by omega,e⟩
   ·exact⟨i,by omega,rfl⟩
   ·obtain⟨r,hr,e⟩:=(h.mem x).1 (hm.1 (.inr hx));exact⟨r,by omega,e⟩
  ·rintro⟨r,hr,e⟩
   by_cases e2:r=i
   ·subst e2;exact .inl (.inr e)
   ·rcases hm.2 ((h.mem x).2 ⟨r,by omega,e⟩) with hx|hx
    ·exact .inl (.inl hx)
    ·exact .inr hx
def pq (L R:List Int) (i:Int) (j:Nat):List Int:=L.take j++[i]++L.drop j++R
theorem GA {L R:List Int} {i:Int} {j:Nat} (hj:j<=L.length):(pq L R i j).length=L.length+1+R.length:=by
 unfold pq
 simp only[List.length_append,List.length_take,List.length_cons,List.length_nil,List.length_drop]
 omega
theorem GB (L R:List Int) (i:Int):pq L R i L.length=L++i::R:=by
 unfold pq
 simp
theorem JP {L R:List Int} {i:Int} {j:Nat} (hj:j<=L.length):(pq L R i j).getD j 0=i:=by
 unfold pq
 rw[List.append_assoc,List.append_assoc,gD,List.getElem?_append_right (by rw[List.length_take];omega)]
 simp[Nat.min_eq_left hj]
theorem Bm {L R:List Int} {i:Int} {j:Nat} (hj:j<L.length):(pq L R i (j+1)).getD j 0=L.getD j 0:=by
 unfold pq
 rw[List.append_assoc,List.append_assoc,gD,List.getElem?_append_left (by simp;omega),List.getElem?_take,if_pos (by omega),<-gD]
theorem Et {L R:List Int} {i:Int} {j:Nat} (hj:j<L.length):((pq L R i (j+1)).set (j+1) (L.getD j 0)).set j i=pq L R i j:=by
 have e1:L.take (j+1)=L.take j++[L.getD j 0]:=by
  rw[List.take_succ_eq_append_getElem hj,ap 0 hj]
 have e2:L.drop j=L.getD j 0::L.drop (j+1):=by
  rw[List.drop_eq_getElem_cons hj,ap 0 hj]
 unfold pq
 rw[e1,e2]
 generalize L.getD j 0=x
 have hl:(L.take j).length=j:=by rw[List.length_take];omega
 simp only[List.append_assoc,List.cons_append,List.nil_append]
 rw[List.set_append_right _ _ (by omega),hl,show j+1-j=1 by omega,List.set_append_right _ _ (by omega),hl,Nat.sub_self]
 rfl
end
end
end Go.Proofs.YtekmminpfhacpaaGreatDoor
