import Derived.Test.YtekmminpfhacpaaGreatDoorM5
import Derived.Test.YtekmminpfhacpaaGreatDoorPlR
set_option linter.unusedVariables false
set_option linter.unusedSimpArgs false
namespace Go.Proofs.YtekmminpfhacpaaGreatDoor
set_option maxRecDepth 100000
set_option maxHeartbeats 8000000
theorem ny {l:List Int} {n:Int} (h:bC l n=0):lV l n/\pM l:=by
 unfold bC at h
 by_cases h1:lV l n
 ·rw[if_pos h1] at h
  by_cases h2:pM l
  ·exact⟨h1,h2⟩
  ·rw[if_neg h2] at h;omega
 ·rw[if_neg h1] at h;omega
theorem H9 {l:List Int} {n:Int} (h:bC l n=0):∀k,k<l.length->(k:Int)<=l.getD k 0:=by
 obtain⟨h1,h2⟩:=ny h
 intro k
 induction k with
 |zero=>intro hk;exact(h1 0 hk).1
 |succ k ih=>
  intro hk
  have a:=ih (by omega)
  have b:=h2 (k+1) hk (by omega)
  rw[Nat.add_sub_cancel] at b
  omega
theorem bv {l:List Int} {n:Nat} (h:bC l n=0):l.length<=n:=by
 by_cases h0:l.length=0
 ·omega
 have a:=H9 h (l.length-1) (by omega)
 have b:=(ny h).1 (l.length-1) (by omega)
 omega
structure ON (p:an):Prop where
 name:cj p.name
 top:1<=p.topology/\p.topology<=4/\0<=p.fault/\p.fault<=3
 len:0<p.states.length/\p.states.length<=6/\p.messages.length<=3/\p.values.length<=3/\p.resilience.length<=4/\p.rules.length<=8
 nms:oQ (dF p)
 shp:¬((p.topology≠1/\(0<p.messages.length\/0<p.values.length\/0<p.resilience.length\/p.fault≠0))\/(p.topology=1/\0<p.leader.length))
 res:rc p
 ini:bC p.initial p.states.length=0/\0<p.initial.length/\bC p.leader p.states.length=0
 rul:∀i,i<p.rules.length->b9 p i (p.rules.getD i ap)=0
 thr:(ax p.rules).length<=3
theorem aL {p:an} (h:aA p=0):ON p:=by
 unfold aA at h
 by_cases h1:¬cj p.name
 ·rw[if_pos h1] at h;omega
 rw[if_neg h1] at h
 by_cases h2:p.topology<1\/4<p.topology\/p.fault<0\/3<p.fault
 ·rw[if_pos h2] at h;omega
 rw[if_neg h2] at h
 by_cases h3:p.states.length=0
 ·rw[if_pos h3] at h;omega
 rw[if_neg h3] at h
 by_cases h4:6<p.states.length\/3<p.messages.length\/3<p.values.length\/4<p.resilience.length\/8<p.rules.length
 ·rw[if_pos h4] at h;omega
 rw[if_neg h4] at h
 by_cases h5:¬oQ (dF p)
 ·rw[if_pos h5] at h;omega
 rw[if_neg h5] at h
 by_cases h6:(p.topology≠1/\(0<p.messages.length\/0<p.values.length\/0<p.resilience.length\/p.fault≠0))\/(p.topology=1/\0<p.leader.length)
 ·rw[if_pos h6] at h;omega
 rw[if_neg h6] at h
 by_cases h7:¬rc p
 ·rw[if_pos h7] at h;omega
 rw[if_neg h7] at h
 have hz:=ca h
 have a1:=hz (if p.initial.length=0 then 1 else 0) (by simp)
 have a2:=hz (iv p) (by simp)
 have a3:=hz (if 3<(ax p.rules).length then 4 else 0) (by simp)
 refine⟨Classical.not_not.1 h1,by omega,by omega,Classical.not_not.1 h5,h6,Classical.not_not.1 h7,⟨hz _ (by simp),?_,hz _ (by simp)⟩,fun i hi=>?_,?_⟩
 ·split at a1<;>omega
 ·exact ca a2 _ (List.mem_map.2 ⟨i,List.mem_range.2 hi,rfl⟩)
 ·split at a3<;>omega
theorem KI {l:List Int} {n:Int} (h:i9 l n=0):(l.length:Int)=n:=by
 unfold i9 at h
 split at h<;>omega
theorem yW {p:an} {i:Nat} {r:bo} (hl:0<p.states.length/\p.states.length<=6/\p.messages.length<=3) (h:b9 p i r=0):¬oM r:=by
 obtain⟨h1,h2,h3,_,_,h6⟩:=iw h
 have hn:=h1.1.2
 unfold iQ at h3
 unfold fR at h2
 unfold cW at h6
 unfold oM
 have hk:r.kind=1\/r.kind=2\/r.kind=3\/r.kind=4\/r.kind=5:=by omega
 rcases hk with k|k|k|k|k
 ·rw[if_pos k] at h6
  have hz:=ca h6
  have c1:=rf (hz (aK p.messages.length r.guards) (by simp))
  have c2:=bv (hz (bC r.some_ p.states.length) (by simp))
  have c3:=bv (hz (bC r.forall_ p.states.length) (by simp))
  have c4:=bv (hz (bC r.send p.messages.length) (by simp))
  omega
 ·omega
 ·rw[if_neg (by omega),if_neg (by omega),if_pos k] at h6
  have c1:=KI (ca h6 (i9 r.response p.states.length) (by simp))
  omega
 ·rw[if_neg (by omega),if_neg (by omega),if_neg (by omega),if_pos k] at h6
  have hz:=ca h6
  have c1:=bv (hz (bC r.left p.states.length) (by simp))
  have c2:=bv (hz (bC r.right p.states.length) (by simp))
  have c3:=bv (hz (bC r.parent p.states.length) (by simp))
  omega
 ·omega
theorem Ci {p:an} (h:oQ (dF p)):¬nn p.states/\¬nn p.messages/\¬nn p.values:=by
 have key:∀s∈dF p,s.size<=12:=by
  intro s hs
  obtain⟨j,hj,e⟩:=List.getElem_of_mem hs
  have:=(h j hj).1.1.2
  rwa [gD,gL hj,Option.getD_some,e] at this
 have go:∀l:List ByteArray,(∀s∈l,s∈dF p)->¬nn l:=by
  rintro l hl ⟨j,hj,hlt⟩
  have:=key _ (hl _ (aB (l:=l) t0 hj))
  omega
 refine⟨go _ fun s hs=>?_,go _ fun s hs=>?_,go _ fun s hs=>?_⟩<;>simp[dF,hs]
theorem eW {p:an} (h:aA p=0):¬dX p:=by
 have v:=aL h
 have h1:=v.name.1.2
 have h2:=bv v.ini.1
 have h3:=bv v.ini.2.2
 have h4:=v.len
 obtain⟨n1,n2,n3⟩:=Ci v.nms
 have h5:¬∃j,j<p.rules.length/\oM (p.rules.getD j ap):=fun⟨j,hj,hb⟩=>yW ⟨h4.1,h4.2.1,h4.2.2.1⟩ (v.rul j hj) hb
 unfold dX
 rintro(h|h|h|h|h|h|h|h|h|h|h|h)
 any_goals omega
 all_goals first|exact h5 h|exact n1 h|exact n2 h|exact n3 h
structure Ox (p:an) (q:aG):Prop where
 vld:aA p=0
 name:cj q.name
 kind:q.kind=1\/q.kind=2
 shp:¬((q.kind=1/\0<q.goal.length)\/(q.kind=2/\(0<q.bad.length\/0<q.adjacent.length)))
 start:bC q.start p.states.length=0
 ini:∀j,j<q.start.length->q.start.getD j 0∈p.initial
 goal:q.kind=2->bC q.goal p.states.length=0/\0<q.goal.length
 bad:q.kind=1->q.bad.length<=3/\nt p.states.length q.bad=0/\mh p q.adjacent=0/\¬(q.bad.length=0/\q.adjacent.length=0)
theorem aF {p:an} {q:aG} (h:aP p q=0):Ox p q:=by
 unfold aP at h
 by_cases h1:aA p≠0
 ·rw[if_pos h1] at h;omega
 rw[if_neg h1] at h
 by_cases h2:¬cj q.name
 ·rw[if_pos h2] at h;omega
 rw[if_neg h2] at h
 by_cases h3:q.kind≠1/\q.kind≠2
 ·rw[if_pos h3] at h;omega
 rw[if_neg h3] at h
 by_cases h4:(q.kind=1/\0<q.goal.length)\/(q.kind=2/\(0<q.bad.length\/0<q.adjacent.length))
 ·rw[if_pos h4] at h;omega
 rw[if_neg h4] at h
 by_cases h5:bC q.start p.states.length≠0
 ·rw[if_pos h5] at h;omega
 rw[if_neg h5] at h
 by_cases h6:¬(∀j,j<q.start.length->q.start.getD j 0∈p.initial)
 ·rw[if_pos h6] at h;omega
 rw[if_neg h6] at h
 refine⟨by omega,Classical.not_not.1 h2,by omega,h4,by omega,Classical.not_not.1 h6,fun k=>?_,fun k=>?_⟩
 ·rw[if_pos k] at h
  have hz:=ca h
  have a:=hz (if q.goal.length=0 then 1 else 0) (by simp)
  refine⟨hz _ (by simp),?_⟩
  split at a<;>omega
 ·rw[if_neg (by omega)] at h
  have hz:=ca h
  have a:=hz (if q.bad.length=0/\q.adjacent.length=0 then 1 else 0) (by simp)
  have b:=hz (if 3<q.bad.length then 4 else 0) (by simp)
  refine⟨?_,hz _ (by simp),hz _ (by simp),?_⟩
  ·split at b<;>omega
  ·split at a
   ·omega
   ·assumption
theorem jB {p:an} {q:aG} (h:Ox p q) (k:q.kind=1) {j:Nat} (hj:j<q.bad.length):bC (q.bad.getD j br).states p.states.length=0/\0<(q.bad.getD j br).states.length/\1<=(q.bad.getD j br).least/\(q.bad.getD j br).least<=3:=by
 have hz:=ca (h.bad k).2.1
 have hc:=ca (hz (yO p.states.length (q.bad.getD j br)) (List.mem_map.2 ⟨_,aB _ hj,rfl⟩))
 have a:=hc (if(q.bad.getD j br).states.length=0\/(q.bad.getD j br).least<1\/3<(q.bad.getD j br).least then 1 else 0) (by simp)
 refine⟨hc _ (by simp),?_⟩
 split at a<;>omega
theorem nz {p:an} {q:aG} (h:aP p q=0):¬mK q:=by
 have v:=aF h
 have h1:=v.name.1.2
 have hs:=(aL v.vld).len
 have h2:=bv v.start
 have h3:q.goal.length<=6:=by
  rcases v.kind with k|k
  ·have:=v.shp;omega
  ·have:=bv (v.goal k).1;omega
 have h4:q.bad.length<=3/\q.adjacent.length<=2:=by
  rcases v.kind with k|k
  ·refine⟨(v.bad k).1,?_⟩
   have ha:=(v.bad k).2.2.1
   unfold mh at ha
   split at ha
   ·omega
   ·split at ha
    ·omega
    ·split at ha<;>omega
  ·have:=v.shp;omega
 have h5:¬∃j,j<q.bad.length/\60<(q.bad.getD j br).states.length:=by
  rintro⟨j,hj,hb⟩
  rcases v.kind with k|k
  ·have:=bv (jB v k hj).1;omega
  ·have:=v.shp;omega
 unfold mK
 rintro(h|h|h|h|h|h)
 any_goals omega
 exact h5 h
structure Vb where
 kind:Int
 seg:Int
 idx:Int
theorem kj {a b:Vb} (h1:a.kind=b.kind) (h2:a.seg=b.seg) (h3:a.idx=b.idx):a=b:=by
 cases a;cases b;cases h1;cases h2;cases h3;rfl
instance decVb:DecidableEq Vb:=fun a b=>
 if h:a.kind=b.kind/\a.seg=b.seg/\a.idx=b.idx then isTrue (kj h.1 h.2.1 h.2.2) else isFalse (fun e=>h (by rw[e];exact⟨rfl,rfl,rfl⟩))
def dU:Vb:=⟨0,0,0⟩
def fp (v:Vb):List AV:=[.int .i64 v.kind, .int .i64 v.seg, .int .i64 v.idx]
def bw (p:an) (q:aG):List Int:=if 0<q.start.length then q.start else p.initial
def gJ (r:bo):Prop:=r.kind=1/\r.src<r.dst/\r.some_.length=0/\r.forall_.length=0
instance (r:bo):Decidable (gJ r):=inferInstanceAs (Decidable (_/\_))
def dZ (p:an):Prop:=p.topology=1/\p.values.length=0/\∀j,j<p.rules.length->gJ (p.rules.getD j ap)
instance (p:an):Decidable (dZ p):=inferInstanceAs (Decidable (_/\_))
def ji (p:an) (q:aG):Prop:=q.kind=2->∀j,j<p.rules.length->(p.rules.getD j ap).src∈q.goal->(p.rules.getD j ap).dst∈q.goal
instance (p:an) (q:aG):Decidable (ji p q):=inferInstanceAs (Decidable (_->_))
def p7 (rs:List bo):Nat->Nat
 |0=>1
 |k+1=>p7 rs k*(1+(rs.getD k ap).guards.length)
def oX (p:an) (q:aG):Nat:=if q.kind=2 then p7 p.rules p.rules.length else 1
def cb (p:an) (q:aG):Int:=if aP p q≠0 then aP p q else if¬(dZ p/\ji p q) then 7 else if 64<oX p q then 4 else 0
theorem uF (rs:List bo):∀k,0<p7 rs k
 |0=>Nat.one_pos
 |k+1=>Nat.mul_pos (uF rs k) (by omega)
theorem ER {rs:List bo} (h:∀j,j<rs.length->(rs.getD j ap).guards.length<=2):∀k,k<=rs.length->p7 rs k<=3^k
 |0,_=>by simp[p7]
 |k+1,hk=>by
  have a:=ER h k (by omega)
  have b:=h k (by omega)
  rw[p7,Nat.pow_succ]
  exact Nat.mul_le_mul a (by omega)
def da (n:Nat) (l:List Int):Prop:=∀i,i<l.length->(0<=l.getD i 0/\l.getD i 0<n)/\l.getD i 0∉l.take i
instance (n:Nat) (l:List Int):Decidable (da n l):=inferInstanceAs (Decidable (∀i,i<l.length->_))
theorem xc {l:List Int} (h:∀i,i<l.length->l.getD i 0∉l.take i):l.Nodup:=by
 rw[List.nodup_iff_pairwise_ne,List.pairwise_iff_getElem]
 intro i j hi hj hij e
 have:=h j hj
 rw[av 0 hj,<-e] at this
 exact this (List.mem_take_iff_getElem.2 ⟨i,by omega,rfl⟩)
theorem lY:∀{n:Nat} {l:List Int},l.Nodup->(∀x∈l,0<=x/\x<n)->l.length<=n
 |0,l,_,hb=>by
  cases l with
  |nil=>simp
  |cons a l=>have:=hb a (by simp);omega
 |n+1,l,hn,hb=>by
  have h1:(l.erase (n:Int)).length<=n:=lY (hn.erase _) fun x hx=>by
   have a:=hb x (List.mem_of_mem_erase hx)
   have b:x≠n:=fun e=>by subst e;exact(List.Nodup.not_mem_erase hn) hx
   omega
  have h2:l.length<=(l.erase (n:Int)).length+1:=by
   rw[List.length_erase];split<;>omega
  omega
theorem tl {n:Nat} {l:List Int} (h:da n l):l.Nodup:=xc fun i hi=>(h i hi).2
theorem c5 {n:Nat} {l:List Int} (h:da n l):l.length<=n:=lY (tl h) fun x hx=>by
 obtain⟨i,hi,e⟩:=List.getElem_of_mem hx
 have:=(h i hi).1
 rwa [av 0 hi,e] at this
def uG (k:Nat):Nat->List Int->List (List Int)
 |0,at_=>[at_]
 |m+1,at_=>at_::(List.range k).flatMap fun i:Nat=>if(i:Int)∈at_ then[] else uG k m (at_++[(i:Int)])
def uH (p:an):List (List Int):=uG (ax p.rules).length (ax p.rules).length []
def Ao (rs:List bo) (number:Nat):Nat->Nat
 |0=>number
 |m+1=>Ao rs number m / (1+(rs.getD (rs.length-1-m) ap).guards.length)
def xZ (rs:List bo) (number i:Nat):Nat:=Ao rs number (rs.length-1-i) % (1+(rs.getD i ap).guards.length)
def x5 (p:an) (number:Nat):List Int:=(List.range p.rules.length).map fun i=>(xZ p.rules number i:Int)
theorem nA (p:an) (number:Nat):(x5 p number).length=p.rules.length:=by simp[x5]
theorem nB {p:an} {number i:Nat} (h:i<p.rules.length):(x5 p number).getD i 0=(xZ p.rules number i:Int):=by
 rw[x5,av 0 (by simp;exact h)];simp
theorem yX (rs:List bo) (number i:Nat):xZ rs number i<=(rs.getD i ap).guards.length:=by
 have:=Nat.mod_lt (Ao rs number (rs.length-1-i)) (show 0<1+(rs.getD i ap).guards.length by omega)
 unfold xZ;omega
def jC (p:an):Prop:=p.fault=1\/p.fault=2
instance (p:an):Decidable (jC p):=inferInstanceAs (Decidable (_\/_))
def yY (T:List ez) (sch:List Int) (j:Nat) (r:bo):Prop:=∀g∈r.guards,∃i,i<j/\T.getD (sch.getD i 0).toNat aC=g
instance (T:List ez) (sch:List Int) (j:Nat) (r:bo):Decidable (yY T sch j r):=inferInstanceAs (Decidable (∀g∈r.guards,_))
def rm (p:an) (sch:List Int) (j r:Nat):List Vb:=if yY (ax p.rules) sch j (p.rules.getD r ap) then(if jC p then[⟨5,j,r⟩,⟨6,j,r⟩] else[⟨5,j,r⟩]) else[]
def bN (p:an) (sch:List Int) (j k:Nat):List Vb:=(List.range k).flatMap (rm p sch j)
def pP (p:an) (q:aG):List Vb:=(bw p q).map (fun x=>⟨3,0,x⟩)++(if jC p then p.initial.map (fun x=>(⟨4,0,x⟩:Vb)) else[])
def ak (p:an) (q:aG) (sch:List Int):List Vb:=[⟨0,0,0⟩,⟨1,0,0⟩,⟨2,0,0⟩]++pP p q++(List.range (sch.length+1)).flatMap fun j=>bN p sch j p.rules.length
theorem dB (p:an) (sch:List Int) (j k:Nat):bN p sch j (k+1)=bN p sch j k++rm p sch j k:=by simp[bN,List.range_succ,List.flatMap_append]
theorem H' (p:an) (sch:List Int) (j r:Nat):(rm p sch j r).length<=2:=by unfold rm;split<;>(try split)<;>simp
theorem jD (p:an) (sch:List Int) (j:Nat):∀k,(bN p sch j k).length<=2*k
 |0=>by simp[bN]
 |k+1=>by rw[dB,List.length_append];have:=jD p sch j k;have:=H' p sch j k;omega
theorem rn (p:an) (sch:List Int) (m:Nat):∀k,((List.range k).flatMap fun j=>bN p sch j m).length<=2*m*k
 |0=>by simp
 |k+1=>by
  rw[List.range_succ,List.flatMap_append,List.length_append]
  have a:=rn p sch m k
  have b:=jD p sch k m
  simp only[List.flatMap_cons,List.flatMap_nil,List.append_nil]
  rw[Nat.mul_add,Nat.mul_one]
  omega
theorem d4 {p:an} {sch:List Int} {j r:Nat} {v:Vb} (h:v∈rm p sch j r):(v.kind=5\/v.kind=6/\jC p)/\v.seg=j/\v.idx=r/\yY (ax p.rules) sch j (p.rules.getD r ap):=by
 unfold rm at h
 split at h
 ·rename_i ha
  split at h
  ·rename_i hw
   simp only[List.mem_cons,List.not_mem_nil,or_false] at h
   rcases h with rfl|rfl
   ·exact⟨.inl rfl,rfl,rfl,ha⟩
   ·exact⟨.inr ⟨rfl,hw⟩,rfl,rfl,ha⟩
  ·simp only[List.mem_cons,List.not_mem_nil,or_false] at h
   subst h
   exact⟨.inl rfl,rfl,rfl,ha⟩
 ·simp at h
theorem Cj (p:an) (sch:List Int) (j r:Nat):(rm p sch j r).Nodup:=by
 unfold rm
 split
 ·split
  ·simp
  ·simp
 ·simp
theorem dp {p:an} {sch:List Int} {j k:Nat} {v:Vb} (h:v∈bN p sch j k):∃r,r<k/\v∈rm p sch j r:=by
 unfold bN at h
 obtain⟨r,hr,hv⟩:=List.mem_flatMap.1 h
 exact⟨r,List.mem_range.1 hr,hv⟩
theorem ro (p:an) (sch:List Int) (j:Nat):∀k,(bN p sch j k).Nodup
 |0=>by simp[bN]
 |k+1=>by
  rw[dB,List.nodup_append]
  refine⟨ro p sch j k,Cj p sch j k,fun a ha b hb e=>?_⟩
  obtain⟨r,hr,ha⟩:=dp ha
  have:=(d4 ha).2.2.1
  have:=(d4 hb).2.2.1
  subst e
  omega
theorem rq (p:an) (sch:List Int) (m:Nat):∀k,((List.range k).flatMap fun j=>bN p sch j m).Nodup
 |0=>by simp
 |k+1=>by
  rw[List.range_succ,List.flatMap_append,List.nodup_append]
  simp only[List.flatMap_cons,List.flatMap_nil,List.append_nil]
  refine⟨rq p sch m k,ro p sch k m,fun a ha b hb e=>?_⟩
  obtain⟨j,hj,ha⟩:=List.mem_flatMap.1 ha
  have hj:=List.mem_range.1 hj
  obtain⟨r,_,ha⟩:=dp ha
  obtain⟨r',_,hb⟩:=dp hb
  have:=(d4 ha).2.1
  have:=(d4 hb).2.1
  subst e
  omega
theorem ij {l:List Int} {n:Int} (h:bC l n=0):l.Nodup:=by
 obtain⟨_,h2⟩:=ny h
 have key:∀(k i:Nat),i<k->k<l.length->l.getD i 0<l.getD k 0:=by
  intro k
  induction k with
  |zero=>intro i hi;omega
  |succ k ih=>
   intro i hi hk
   have h1:=h2 (k+1) hk (by omega)
   rw[Nat.add_sub_cancel] at h1
   by_cases e:i=k
   ·subst e;exact h1
   ·have:=ih i (by omega) (by omega);omega
 rw[List.nodup_iff_pairwise_ne,List.pairwise_iff_getElem]
 intro i j hi hj hij e
 have:=key j i hij hj
 rw[av 0 hi,av 0 hj,e] at this
 omega
theorem tm {l:List Int} {f:Int->Vb} (h:l.Nodup) (hf:∀a b,f a=f b->a=b):(l.map f).Nodup:=by
 rw[List.nodup_iff_pairwise_ne] at*
 exact List.pairwise_map.2 (h.imp fun hab e=>hab (hf _ _ e))
theorem bu {p:an} {q:aG} (h:aP p q=0) (sch:List Int):(ak p q sch).Nodup:=by
 have v:=aF h
 have hs:(bw p q).Nodup:=by
  unfold bw;split
  ·exact ij v.start
  ·exact ij (aL v.vld).ini.1
 have hst:(pP p q).Nodup:=by
  unfold pP
  rw[List.nodup_append]
  refine⟨tm hs fun a b e=>by injection e,?_,fun a ha b hb e=>?_⟩
  ·split
   ·exact tm (ij (aL v.vld).ini.1) fun a b e=>by injection e
   ·simp
  ·obtain⟨x,_,rfl⟩:=List.mem_map.1 ha
   split at hb
   ·obtain⟨y,_,rfl⟩:=List.mem_map.1 hb
    injection e with e1
    omega
   ·simp at hb
 have hk:∀a∈pP p q,a.kind=3\/a.kind=4:=by
  intro a ha
  unfold pP at ha
  rcases List.mem_append.1 ha with ha|ha
  ·obtain⟨x,_,rfl⟩:=List.mem_map.1 ha;exact .inl rfl
  ·split at ha
   ·obtain⟨x,_,rfl⟩:=List.mem_map.1 ha;exact .inr rfl
   ·simp at ha
 have hk2:∀a∈((List.range (sch.length+1)).flatMap fun j=>bN p sch j p.rules.length),a.kind=5\/a.kind=6:=by
  intro a ha
  obtain⟨j,_,ha⟩:=List.mem_flatMap.1 ha
  obtain⟨r,_,ha⟩:=dp ha
  have:=(d4 ha).1
  omega
 unfold ak
 rw[List.nodup_append,List.nodup_append]
 refine⟨⟨by simp,hst,fun a ha b hb e=>?_⟩,rq p sch _ _,fun a ha b hb e=>?_⟩
 ·subst e
  have:=hk a hb
  simp only[List.mem_cons,List.not_mem_nil,or_false] at ha
  rcases ha with rfl|rfl|rfl<;>simp at this
 ·subst e
  have h2:=hk2 a hb
  rcases List.mem_append.1 ha with ha|ha
  ·simp only[List.mem_cons,List.not_mem_nil,or_false] at ha
   rcases ha with rfl|rfl|rfl<;>simp at h2
  ·have:=hk a ha;omega
theorem Ia {p:an} {q:aG} (h:aP p q=0):(pP p q).length<=12:=by
 have v:=aF h
 have w:=aL v.vld
 have a:=bv v.start
 have b:=bv w.ini.1
 have c:=w.len
 unfold pP bw
 rw[List.length_append,List.length_map]
 split<;>split<;>simp<;>omega
theorem eK {p:an} {q:aG} (h:aP p q=0) {sch:List Int} (hs:da (ax p.rules).length sch):(ak p q sch).length<=79:=by
 have w:=aL (aF h).vld
 have a:=Ia h
 have b:=rn p sch p.rules.length (sch.length+1)
 have c:=c5 hs
 have d:=w.thr
 have e:=w.len
 have f:2*p.rules.length*(sch.length+1)<=16*4:=Nat.mul_le_mul (by omega) (by omega)
 unfold ak
 rw[List.length_append,List.length_append]
 simp only[List.length_cons,List.length_nil]
 omega
abbrev Co:=Vb->Int
def zC:Co:=fun _=>0
def cR (c:Co) (v0:Vb) (k:Int):Co:=fun v=>if v=v0 then c v+k else c v
theorem lZ (c:Co) (v:Vb) (k:Int):cR c v k v=c v+k:=by simp[cR]
theorem l0 (c:Co) {v v0:Vb} (k:Int) (h:v≠v0):cR c v0 k v=c v:=by simp[cR,h]
theorem g9 (c:Co) {vars:List Vb} {m:Nat} (hm:m<vars.length):(vars.map c).getD m 0=c (vars.getD m dU):=by
 rw[av 0 (by simpa using hm),av dU hm,List.getElem_map]
theorem ES (c:Co) {vars:List Vb} {v0:Vb} (k:Int) (h:v0∉vars):vars.map (cR c v0 k)=vars.map c:=
 List.map_congr_left fun v hv=>l0 c k fun e=>h (e▸hv)
theorem Ap (c:Co) {vars:List Vb} {m:Nat} (k:Int) (hn:vars.Nodup) (hm:m<vars.length):(vars.map c).set m (c (vars.getD m dU)+k)=vars.map (cR c (vars.getD m dU) k):=by
 generalize e0:vars.getD m dU=v0
 have e0:vars[m]=v0:=by rw[<-e0,av dU hm]
 apply List.ext_getElem
 ·simp
 ·intro i h1 h2
  rw[List.getElem_set,List.getElem_map]
  by_cases e:m=i
  ·subst e;rw[if_pos rfl,List.getElem_map,e0,lZ]
  ·rw[if_neg e,List.getElem_map,l0]
   exact fun e2=>e ((List.getElem_inj hn).1 (e0.trans e2.symm))
noncomputable def kK (vars:List Vb) (kind:Int):Nat->Int×Int->Option Int
 |0=>fun _=>none
 |n+1=>if(vars.getD n dU).kind=kind then qE (kK vars kind n) ((vars.getD n dU).seg,(vars.getD n dU).idx) (n:Int) else kK vars kind n
theorem iA {vars:List Vb} {kind s i:Int}:∀{n:Nat} {j:Int},kK vars kind n (s,i)=some j->∃m:Nat,j=m/\m<n/\vars.getD m dU=⟨kind,s,i⟩
 |0,j,h=>by cases h
 |n+1,j,h=>by
  rw[kK] at h
  split at h
  ·rename_i hk
   by_cases e:(s,i)=((vars.getD n dU).seg,(vars.getD n dU).idx)
   ·rw[e,gf] at h
    cases h
    injection e with e1 e2
    exact⟨n,rfl,by omega,kj hk e1.symm e2.symm⟩
   ·rw[iW _ _ e] at h
    obtain⟨m,a,b,c⟩:=iA h
    exact⟨m,a,by omega,c⟩
  ·obtain⟨m,a,b,c⟩:=iA h
   exact⟨m,a,by omega,c⟩
theorem rr {vars:List Vb} {kind s i:Int}:∀{n:Nat},kK vars kind n (s,i)=none->∀m,m<n->vars.getD m dU≠⟨kind,s,i⟩
 |0,_,m,hm=>by omega
 |n+1,h,m,hm=>by
  rw[kK] at h
  by_cases e:m=n
  ·subst e
   intro e2
   rw[e2,if_pos rfl,gf] at h
   cases h
  ·split at h
   ·rename_i hk
    by_cases e:(s,i)=((vars.getD n dU).seg,(vars.getD n dU).idx)
    ·rw[e,gf] at h;cases h
    ·rw[iW _ _ e] at h
     exact rr h m (by omega)
   ·exact rr h m (by omega)
theorem oY {vars:List Vb} {kind s i:Int} (h:kK vars kind vars.length (s,i)=none):(⟨kind,s,i⟩:Vb)∉vars:=by
 intro hm
 obtain⟨m,hm,e⟩:=List.getElem_of_mem hm
 exact rr h m hm (by rw[av dU hm,e])
def fT (l:kG):Co:=fun v=>if v=⟨0,0,0⟩ then l.n else if v=⟨1,0,0⟩ then l.t else if v=⟨2,0,0⟩ then l.f else 0
def cl (c:Co) (k:Int) (d:Co):Co:=fun v=>c v+k*d v
def fJ (n:Nat) (fire:Int) (j i:Nat) (v:Vb):Prop:=v.kind=fire/\0<=v.seg/\0<=v.idx/\(v.seg<j/\v.idx<n\/v.seg=j/\v.idx<i)
instance (n:Nat) (fire:Int) (j i:Nat) (v:Vb):Decidable (fJ n fire j i v):=inferInstanceAs (Decidable (_/\_))
def JM (rs:List bo) (state:Int) (v:Vb):Int:=(if(rs.getD v.idx.toNat ap).dst=state then 1 else 0)-(if(rs.getD v.idx.toNat ap).src=state then 1 else 0)
def cn (rs:List bo) (start fire state:Int) (j i:Nat):Co:=fun v=>(if v=⟨start,0,state⟩ then 1 else 0)+if fJ rs.length fire j i v then JM rs state v else 0
def bT (rs:List bo) (fire message:Int) (j i:Nat):Co:=fun v=>if fJ rs.length fire j i v/\message∈(rs.getD v.idx.toNat ap).send then 1 else 0
theorem nC (n:Nat) (fire:Int) (j i:Nat) (v:Vb):fJ n fire j (i+1) v↔fJ n fire j i v\/v=⟨fire,j,i⟩:=by
 unfold fJ
 constructor
 ·rintro⟨h1,h2,h3,h4⟩
  by_cases e:v.seg=j/\v.idx=i
  ·exact .inr (kj h1 e.1 e.2)
  ·exact .inl ⟨h1,h2,h3,by omega⟩
 ·rintro(⟨h1,h2,h3,h4⟩|rfl)
  ·exact⟨h1,h2,h3,by omega⟩
  ·refine⟨rfl,?_,?_,?_⟩<;>dsimp only<;>omega
theorem uI (n:Nat) (fire:Int) (j i:Nat):¬fJ n fire j i ⟨fire,j,i⟩:=by unfold fJ;dsimp only;omega
theorem Aq (n:Nat) (fire:Int) (j:Nat) (v:Vb):fJ n fire j n v↔fJ n fire (j+1) 0 v:=by unfold fJ;omega
theorem Ib (rs:List bo) (start fire state:Int) (j:Nat):cn rs start fire state j rs.length=cn rs start fire state (j+1) 0:=by
 funext v;unfold cn;simp only[Aq]
theorem Ic (rs:List bo) (fire message:Int) (j:Nat):bT rs fire message j rs.length=bT rs fire message (j+1) 0:=by
 funext v;unfold bT;simp only[Aq]
theorem ET (rs:List bo) (start fire state:Int) (j i:Nat) (v:Vb):-1<=cn rs start fire state j i v/\cn rs start fire state j i v<=2:=by
 unfold cn JM
 (repeat' split)<;>omega
theorem tn (rs:List bo) (fire message:Int) (j i:Nat) (v:Vb):0<=bT rs fire message j i v/\bT rs fire message j i v<=1:=by
 unfold bT
 split<;>omega
theorem EU (rs:List bo) (fire message:Int) (j i:Nat) (c:Co) (k:Int):cl c k (bT rs fire message j (i+1))=if message∈(rs.getD i ap).send then cR (cl c k (bT rs fire message j i)) ⟨fire,j,i⟩ k else cl c k (bT rs fire message j i):=by
 funext v
 by_cases e:v=⟨fire,j,i⟩
 ·subst e
  by_cases hm:message∈(rs.getD i ap).send
  ·rw[if_pos hm,lZ]
   unfold cl bT
   rw[if_pos ⟨(nC _ _ _ _ _).2 (.inr rfl),by simpa using hm⟩,if_neg (fun h=>uI _ _ _ _ h.1)]
   omega
  ·rw[if_neg hm]
   unfold cl bT
   rw[if_neg (fun h=>hm (by simpa using h.2)),if_neg (fun h=>uI _ _ _ _ h.1)]
 ·have a:fJ rs.length fire j (i+1) v↔fJ rs.length fire j i v:=by rw[nC];simp[e]
  have b:cl c k (bT rs fire message j (i+1)) v=cl c k (bT rs fire message j i) v:=by unfold cl bT;simp only[a]
  rw[b]
  split
  ·rw[l0 _ _ e]
  ·rfl
def EV (rs:List bo) (c:Co) (k state fire:Int) (j i:Nat):Co:=
 let c1:=if(rs.getD i ap).dst=state then cR c ⟨fire,j,i⟩ k else c
 if(rs.getD i ap).src=state then cR c1 ⟨fire,j,i⟩ (-k) else c1
theorem EW (rs:List bo) (start fire state:Int) (j i:Nat) (c:Co) (k:Int):cl c k (cn rs start fire state j (i+1))=EV rs (cl c k (cn rs start fire state j i)) k state fire j i:=by
 funext v
 unfold EV
 by_cases e:v=⟨fire,j,i⟩
 ·subst e
  have h1:=(nC rs.length fire j i ⟨fire,j,i⟩).2 (.inr rfl)
  have h2:=uI rs.length fire j i
  have e2:(⟨fire,j,i⟩:Vb).idx.toNat=i:=by simp
  have key:cl c k (cn rs start fire state j (i+1)) ⟨fire,j,i⟩=cl c k (cn rs start fire state j i) ⟨fire,j,i⟩+k*JM rs state ⟨fire,j,i⟩:=by
   unfold cl cn
   rw[if_pos h1,if_neg h2,Int.mul_add,Int.mul_add]
   omega
  rw[key]
  unfold JM
  rw[e2]
  by_cases hd:(rs.getD i ap).dst=state<;>by_cases hs:(rs.getD i ap).src=state<;>simp only[hd,hs,if_pos,if_neg,if_true,if_false,lZ,not_false_eq_true]<;>omega
 ·have a:fJ rs.length fire j (i+1) v↔fJ rs.length fire j i v:=by rw[nC];simp[e]
  have b:cl c k (cn rs start fire state j (i+1)) v=cl c k (cn rs start fire state j i) v:=by unfold cl cn;simp only[a]
  rw[b]
  split<;>split<;>simp only[l0 _ _ e]
theorem Ie (c:Co) (k:Int) (l:kG):cR (cR (cR c ⟨0,0,0⟩ (k*l.n)) ⟨1,0,0⟩ (k*l.t)) ⟨2,0,0⟩ (k*l.f)=cl c k (fT l):=by
 funext v
 unfold cR cl fT
 by_cases h0:v=⟨0,0,0⟩
 ·subst h0;simp
 ·by_cases h1:v=⟨1,0,0⟩
  ·subst h1;simp
  ·by_cases h2:v=⟨2,0,0⟩
   ·subst h2;simp
   ·simp[h0,h1,h2]
def oZ (kind:Int) (n:Nat):Co:=fun v=>if v.kind=kind/\v.seg=0/\0<=v.idx/\v.idx<n then 1 else 0
theorem Ig (kind:Int) (n:Nat) (c:Co) (k:Int):cl c k (oZ kind (n+1))=cR (cl c k (oZ kind n)) ⟨kind,0,n⟩ k:=by
 funext v
 by_cases e:v=⟨kind,0,n⟩
 ·subst e
  rw[lZ]
  unfold cl oZ
  rw[if_pos ⟨rfl,rfl,by dsimp only;omega,by dsimp only;omega⟩,if_neg (by dsimp only;omega)]
  omega
 ·rw[l0 _ _ e]
  unfold cl oZ
  have h:(v.kind=kind/\v.seg=0/\0<=v.idx/\v.idx<(n+1:Nat))↔(v.kind=kind/\v.seg=0/\0<=v.idx/\v.idx<n):=by
   constructor
   ·intro h
    have:v.idx≠n:=fun h2=>e (kj h.1 h.2.1 h2)
    omega
   ·intro h;omega
  simp only[h]
abbrev Rw:=Co×Int
def c6 (vars:List Vb) (r:Rw):fo:=⟨vars.map r.1,r.2⟩
def o0 (l:kG):Rw:=(fT l,l.c)
def eM (kind:Int) (n:Nat) (k:Int) (l:kG):Rw:=(cl (cl zC k (oZ kind n)) (-k) (fT l),-k*l.c)
def km (p:an) (g:ez) (j:Nat):Rw:=
 let c1:=cl (cl zC g.coef (bT p.rules 5 g.message j 0)) g.coef (bT p.rules 6 g.message j 0)
 let c2:=if p.fault=3 then cR c1 ⟨2,0,0⟩ g.coef else c1
 (cl c2 (-1) (fT g.bound),-g.bound.c)
def nD (p:an) (start fire:Int) (x j:Nat):Rw:=(cl zC 1 (cn p.rules start fire x (j+1) 0),0)
def lu (p:an) (seg:Nat) (states:List Int) (least:Int):Rw:=(states.foldl (fun c x=>cl c 1 (cn p.rules 3 5 x (seg+1) 0)) zC,-least)
def o7 (p:an) (seg:Nat) (r:bo) (ch:Int):Rw:=
 if ch=0 then(cl zC (-1) (cn p.rules 3 5 r.src (seg+1) 0),0)
 else
  let g:=r.guards.getD (ch-1).toNat aC
  let c1:=cl zC (-g.coef) (bT p.rules 5 g.message (seg+1) 0)
  let c2:=if p.fault=1 then cl c1 (-g.coef) (bT p.rules 6 g.message (seg+1) 0) else c1
  (cl c2 1 (fT g.bound),g.bound.c-1)
def iT (p:an):List kG:=[⟨-1,1,0,0⟩,⟨0,1,-1,0⟩,⟨0,1,0,-1⟩]++(if p.fault=0 then[⟨0,0,-1,0⟩,⟨0,0,0,-1⟩] else[])++p.resilience
def jE (p:an):List Rw:=[eM 3 p.states.length 1 ⟨0,1,0,-1⟩,eM 3 p.states.length (-1) ⟨0,1,0,-1⟩]++if jC p then[eM 4 p.states.length 1 ⟨0,0,0,1⟩,eM 4 p.states.length (-1) ⟨0,0,0,1⟩] else[]
def ko (p:an) (sch:List Int) (j:Nat):List Rw:=
 (if 0<j then[km p ((ax p.rules).getD (sch.getD (j-1) 0).toNat aC) j] else[])++((List.range p.states.length).map fun x=>nD p 3 5 x j)++(if jC p then(List.range p.states.length).map fun x=>nD p 4 6 x j else[])
def uJ (p:an) (q:aG):List Int:=((List.range p.states.length).map fun x:Nat=>(x:Int)).filter fun x=>decide (x∉q.goal)
def gS (p:an) (q:aG) (seg number:Nat):List Rw:=
 if q.kind=1 then q.bad.map fun c=>lu p seg c.states c.least
 else lu p seg (uJ p q) 1::(List.range p.rules.length).map fun i=>o7 p seg (p.rules.getD i ap) ((x5 p number).getD i 0)
def fg (p:an) (q:aG) (sch:List Int) (number:Int):List Rw:=
 (iT p).map o0++jE p++((List.range (sch.length+1)).flatMap (ko p sch))++if 0<=number then gS p q sch.length number.toNat else[]
def d9 (p:an) (q:aG) (sch:List Int) (number:Int):List fo:=(fg p q sch number).map (c6 (ak p q sch))
def Ih (p:an) (sch:List Int) (v:Vb):Prop:=
 (v=⟨0,0,0⟩\/v=⟨1,0,0⟩\/v=⟨2,0,0⟩)\/((v.kind=3\/v.kind=4/\jC p)/\v.seg=0/\0<=v.idx/\v.idx<p.states.length)\/
 ((v.kind=5\/v.kind=6/\jC p)/\(0<=v.seg/\v.seg<=sch.length)/\0<=v.idx/\v.idx<p.rules.length)
theorem rz {l:List Int} {n:Int} (h:bC l n=0):∀x∈l,0<=x/\x<n:=by
 intro x hx
 obtain⟨i,hi,e⟩:=List.getElem_of_mem hx
 have:=(ny h).1 i hi
 rwa [av 0 hi,e] at this
theorem JN {p:an} {q:aG} (h:aP p q=0):∀x∈bw p q,0<=x/\x<p.states.length:=by
 have v:=aF h
 unfold bw
 split
 ·exact rz v.start
 ·exact rz (aL v.vld).ini.1
theorem iB {p:an} {q:aG} {sch:List Int} (h:aP p q=0) {v:Vb} (hv:v∈ak p q sch):Ih p sch v:=by
 unfold ak at hv
 rcases List.mem_append.1 hv with hv|hv
 ·rcases List.mem_append.1 hv with hv|hv
  ·simp only[List.mem_cons,List.not_mem_nil,or_false] at hv
   exact .inl hv
  ·right;left
   unfold pP at hv
   rcases List.mem_append.1 hv with hv|hv
   ·obtain⟨x,hx,rfl⟩:=List.mem_map.1 hv
    exact⟨.inl rfl,rfl,JN h x hx⟩
   ·split at hv
    ·rename_i hw
     obtain⟨x,hx,rfl⟩:=List.mem_map.1 hv
     exact⟨.inr ⟨rfl,hw⟩,rfl,rz (aL (aF h).vld).ini.1 x hx⟩
    ·simp at hv
 ·right;right
  obtain⟨j,hj,hv⟩:=List.mem_flatMap.1 hv
  have hj:=List.mem_range.1 hj
  obtain⟨r,hr,hv⟩:=dp hv
  obtain⟨a,b,c,_⟩:=d4 hv
  exact⟨a,by omega,by omega⟩
def tp (kind:Int):Co:=fun v=>if v.kind=kind then 1 else 0
section
variable {p:an} {sch:List Int} {v:Vb}
end
def hJ (rs:List bo) (ns:Nat):List Int:=(List.range ns).flatMap fun x:Nat=>((List.range rs.length).filter fun r=>decide ((rs.getD r ap).src=(x:Int))).map fun r:Nat=>(r:Int)
end Go.Proofs.YtekmminpfhacpaaGreatDoor
namespace Go.Proofs.YtekmminpfhacpaaGreatDoor
set_option maxRecDepth 100000
section
variable (k:Int->Int)
def Ck (a b:Int):Prop:=k a<k b\/(k a=k b/\a<b)
def EX (ns n:Nat):List Int:=(List.range ns).flatMap fun x:Nat=>((List.range n).filter fun r:Nat=>decide (k (r:Int)=(x:Int))).map fun r:Nat=>(r:Int)
end
section
variable {k:Int->Int}
theorem EY:∀{l m:List Int},l.Pairwise (Ck k)->m.Pairwise (Ck k)->(∀x,x∈l↔x∈m)->l=m
 |[],[],_,_,_=>rfl
 |[],b::m,_,_,h=>by have:=(h b).2 List.mem_cons_self;cases this
 |a::l,[],_,_,h=>by have:=(h a).1 List.mem_cons_self;cases this
 |a::l,b::m,h1,h2,h=>by
  rw[List.pairwise_cons] at h1 h2
  have e:a=b:=by
   rcases List.mem_cons.1 ((h a).1 List.mem_cons_self) with e|ha
   ·exact e
   ·rcases List.mem_cons.1 ((h b).2 List.mem_cons_self) with e|hb
    ·exact e.symm
    ·have x:=h2.1 a ha
     have y:=h1.1 b hb
     unfold Ck at x y
     omega
  subst e
  have irr:¬Ck k a a:=by unfold Ck;omega
  rw[EY h1.2 h2.2 fun x=>⟨fun hx=>?_,fun hx=>?_⟩]
  ·rcases List.mem_cons.1 ((h x).1 (List.mem_cons_of_mem _ hx)) with rfl|hm
   ·exact absurd (h1.1 _ hx) irr
   ·exact hm
  ·rcases List.mem_cons.1 ((h x).2 (List.mem_cons_of_mem _ hx)) with rfl|hm
   ·exact absurd (h2.1 _ hx) irr
   ·exact hm
theorem EZ {ns n:Nat} (h:∀r:Nat,r<n->0<=k r/\k r<ns) (x:Int):x∈EX k ns n↔∃r:Nat,r<n/\x=r:=by
 unfold EX
 simp only[List.mem_flatMap,List.mem_map,List.mem_filter,List.mem_range,decide_eq_true_eq]
 constructor
 ·rintro⟨_,_,r,⟨hr,_⟩,rfl⟩;exact⟨r,hr,rfl⟩
 ·rintro⟨r,hr,rfl⟩
  have:=h r hr
  exact⟨(k r).toNat,by omega,r,⟨hr,by omega⟩,rfl⟩
theorem Ii (ns n:Nat):(EX k ns n).Pairwise (Ck k):=by
 unfold EX
 rw[List.pairwise_flatMap]
 refine⟨fun x _=>?_,?_⟩
 ·rw[List.pairwise_map]
  have h0:(List.range n).Pairwise (·<·):=List.pairwise_lt_range
  refine(List.Pairwise.filter _ h0).imp_of_mem fun{a b} ha hb hab=>?_
  have ha:=(List.mem_filter.1 ha).2
  have hb:=(List.mem_filter.1 hb).2
  simp only[decide_eq_true_eq] at ha hb
  unfold Ck
  omega
 ·have h0:(List.range ns).Pairwise (·<·):=List.pairwise_lt_range
  refine h0.imp fun{a b} hab x hx y hy=>?_
  obtain⟨r,hr,rfl⟩:=List.mem_map.1 hx
  obtain⟨s,hs,rfl⟩:=List.mem_map.1 hy
  have hr:=(List.mem_filter.1 hr).2
  have hs:=(List.mem_filter.1 hs).2
  simp only[decide_eq_true_eq] at hr hs
  unfold Ck
  omega
structure Ar (k:Int->Int) (i:Nat) (L:List Int):Prop where
 len:L.length=i
 pw:L.Pairwise (Ck k)
 mem:∀x,x∈L↔∃r:Nat,r<i/\x=r
theorem Ar.one:Ar k 1 [0]:=⟨rfl,by simp,fun x=>by
 rw[List.mem_singleton]
 exact⟨fun h=>⟨0,by omega,h⟩,fun⟨r,hr,h⟩=>by rw[h,show r=0 by omega];rfl⟩⟩
theorem Ar.ext {n ns:Nat} {L:List Int} (h:Ar k n L) (hk:∀r:Nat,r<n->0<=k r/\k r<ns):L=EX k ns n:=
 EY h.pw (Ii ns n) fun x=>by rw[h.mem,EZ hk]
theorem Ar.next {i j:Nat} {L:List Int} (h:Ar k i L) (hj:j<=i) (h1:∀x∈L.drop j,k i<k x) (h2:j=0\/k (L.getD (j-1) 0)<=k i):Ar k (i+1) (L.take j++[(i:Int)]++L.drop j):=by
 have hl:=h.len
 have hsplit:L.take j++L.drop j=L:=List.take_append_drop j L
 have hpw:(L.take j++L.drop j).Pairwise (Ck k):=by rw[hsplit];exact h.pw
 rw[List.pairwise_append] at hpw
 have hlow:∀x∈L.take j,Ck k x i:=by
  intro x hx
  have hxi:x<i:=by
   obtain⟨r,hr,rfl⟩:=(h.mem x).1 (List.mem_of_mem_take hx)
   omega
  obtain⟨a,ha,e⟩:=List.mem_take_iff_getElem.1 hx
  have hj0:j≠0:=by omega
  have h2:=h2.resolve_left hj0
  rw[av 0 (by omega)] at h2
  have hle:k x<=k (L[j-1]'(by omega)):=by
   by_cases e2:a=j-1
   ·subst e2;rw[<-e];exact Int.le_refl _
   ·have:=List.pairwise_iff_getElem.1 h.pw a (j-1) (by omega) (by omega) (by omega)
    rw[e] at this
    unfold Ck at this
    omega
  unfold Ck
  omega
 refine⟨?_,?_,fun x=>?_⟩
 ·simp only[List.length_append,List.length_take,List.length_cons,List.length_nil,List.length_drop]
  omega
 ·rw[List.pairwise_append,List.pairwise_append]
  refine⟨⟨hpw.1,by simp,fun x hx y hy=>?_⟩,hpw.2.1,fun x hx y hy=>?_⟩
  ·rw[List.mem_singleton] at hy;subst hy;exact hlow x hx
  ·rcases List.mem_append.1 hx with hx|hx
   ·exact hpw.2.2 x hx y hy
   ·rw[List.mem_singleton] at hx;subst hx
    exact .inl (h1 y hy)
 ·rw[List.mem_append,List.mem_append,List.mem_singleton]
  have hm:(x∈L.take j\/x∈L.drop j)↔x∈L:=by rw[<-List.mem_append,hsplit]
  constructor
  ·rintro((hx|rfl)|hx)
   ·obtain⟨r,hr,e⟩:=(h.mem x).1 (hm.1 (.inl hx));exact⟨r,by omega,e⟩
   ·exact⟨i,by omega,rfl⟩
   ·obtain⟨r,hr,e⟩:=(h.mem x).1 (hm.1 (.inr hx));exact⟨r,by omega,e⟩
  ·rintro⟨r,hr,e⟩
   by_cases e2:r=i
   ·subst e2;exact .inl (.inr e)
   ·rcases hm.2 ((h.mem x).2 ⟨r,by omega,e⟩) with hx|hx
    ·exact .inl (.inl hx)
    ·exact .inr hx
def nE (L R:List Int) (i:Int) (j:Nat):List Int:=L.take j++[i]++L.drop j++R
theorem E0 {L R:List Int} {i:Int} {j:Nat} (hj:j<=L.length):(nE L R i j).length=L.length+1+R.length:=by
 unfold nE
 simp only[List.length_append,List.length_take,List.length_cons,List.length_nil,List.length_drop]
 omega
theorem E1 (L R:List Int) (i:Int):nE L R i L.length=L++i::R:=by
 unfold nE
 simp
theorem Ij {L R:List Int} {i:Int} {j:Nat} (hj:j<=L.length):(nE L R i j).getD j 0=i:=by
 unfold nE
 rw[List.append_assoc,List.append_assoc,gD,List.getElem?_append_right (by rw[List.length_take];omega)]
 simp[Nat.min_eq_left hj]
theorem yZ {L R:List Int} {i:Int} {j:Nat} (hj:j<L.length):(nE L R i (j+1)).getD j 0=L.getD j 0:=by
 unfold nE
 rw[List.append_assoc,List.append_assoc,gD,List.getElem?_append_left (by simp;omega),List.getElem?_take,if_pos (by omega),<-gD]
theorem Cl {L R:List Int} {i:Int} {j:Nat} (hj:j<L.length):((nE L R i (j+1)).set (j+1) (L.getD j 0)).set j i=nE L R i j:=by
 have e1:L.take (j+1)=L.take j++[L.getD j 0]:=by
  rw[List.take_succ_eq_append_getElem hj,av 0 hj]
 have e2:L.drop j=L.getD j 0::L.drop (j+1):=by
  rw[List.drop_eq_getElem_cons hj,av 0 hj]
 unfold nE
 rw[e1,e2]
 generalize L.getD j 0=x
 have hl:(L.take j).length=j:=by rw[List.length_take];omega
 simp only[List.append_assoc,List.cons_append,List.nil_append]
 rw[List.set_append_right _ _ (by omega),hl,show j+1-j=1 by omega,List.set_append_right _ _ (by omega),hl,Nat.sub_self]
 rfl
end
end Go.Proofs.YtekmminpfhacpaaGreatDoor
