import Derived.Test.YtekmminpfhacpaaGreatDoorP1
import Derived.Test.YtekmminpfhacpaaGreatDoorPlR
import Derived.Test.YtekmminpfhacpaaGreatDoorFuA
set_option linter.unusedVariables false
set_option linter.unusedSimpArgs false
namespace Go.Proofs.YtekmminpfhacpaaGreatDoor
set_option maxRecDepth 100000
set_option maxHeartbeats 8000000
def y3 (c:Co) (B:Int):Prop:=∀v,-B<=c v/\c v<=B
theorem tq:y3 zC 0:=fun _=>⟨by simp[zC],by simp[zC]⟩
theorem eN {c:Co} {B B':Int} (h:y3 c B) (hb:B<=B'):y3 c B':=fun v=>by have:=h v;omega
theorem y4 {a b A B:Int} (ha:-A<=a/\a<=A) (hb:-B<=b/\b<=B):-(A*B)<=a*b/\a*b<=A*B:=by
 have hA:0<=A:=by omega
 have hB:0<=B:=by omega
 have h1:(a*b).natAbs<=(A*B).natAbs:=by
  rw[Int.natAbs_mul,Int.natAbs_mul]
  exact Nat.mul_le_mul (by omega) (by omega)
 have h2:0<=A*B:=Int.mul_nonneg hA hB
 omega
theorem gm {c d:Co} {k B K D:Int} (hc:y3 c B) (hd:y3 d D) (hk:-K<=k/\k<=K):y3 (cl c k d) (B+K*D):=fun v=>by
 have a:=hc v
 have b:=y4 hk (hd v)
 unfold cl
 omega
theorem Ik {c:Co} {v0:Vb} {k B K:Int} (hc:y3 c B) (hk:-K<=k/\k<=K) (hK:0<=K):y3 (cR c v0 k) (B+K):=fun v=>by
 have a:=hc v
 unfold cR
 split<;>omega
theorem l5 {l:kG} (h:eh l):y3 (fT l) 100:=fun v=>by
 obtain⟨_,h2,h3,h4⟩:=h
 unfold cD at h2 h3 h4
 unfold fT
 (repeat' split)<;>omega
theorem uN (rs:List bo) (start fire state:Int) (j i:Nat):y3 (cn rs start fire state j i) 2:=fun v=>by have:=ET rs start fire state j i v;omega
theorem p8 (rs:List bo) (fire message:Int) (j i:Nat):y3 (bT rs fire message j i) 1:=fun v=>by have:=tn rs fire message j i v;omega
theorem KJ (kind:Int) (n:Nat):y3 (oZ kind n) 1:=fun v=>by unfold oZ;split<;>omega
theorem gn {p:an} {i:Nat} {r:bo} (h:b9 p i r=0) {g:ez} (hg:g∈r.guards):(0<=g.message/\g.message<p.messages.length)/\(1<=g.coef/\g.coef<=100)/\eh g.bound:=by
 obtain⟨_,_,h3,_,_,h6⟩:=iw h
 by_cases k:r.kind=1
 ·unfold cW at h6
  rw[if_pos k] at h6
  have hz:=ca h6 (aK p.messages.length r.guards) (by simp)
  unfold aK at hz
  split at hz
  ·omega
  ·rename_i h0
   have hg0:=ca (show ci (r.guards.map (gE p.messages.length))=0 by omega) _ (List.mem_map.2 ⟨g,hg,rfl⟩)
   have hg1:=ca hg0
   have a:=hg1 (cM g.message p.messages.length) (by simp)
   have b:=hg1 (eI g.coef) (by simp)
   have c:=hg1 (jz g.bound) (by simp)
   unfold cM at a
   unfold eI at b
   unfold jz at c
   refine⟨?_,?_,?_⟩
   ·split at a<;>omega
   ·split at b<;>omega
   ·split at c
    ·assumption
    ·omega
 ·have:r.guards.length=0:=by unfold iQ at h3;omega
  rw[List.length_eq_zero_iff] at this
  rw[this] at hg
  cases hg
theorem E6 {acc:List ez} {g x:ez} (h:x∈iR acc g):x∈acc\/x=g:=by
 unfold iR at h
 split at h
 ·exact .inl h
 ·rcases List.mem_append.1 h with h|h
  ·exact .inl h
  ·exact .inr (List.mem_singleton.1 h)
theorem Cn {gs:List ez} {x:ez}:∀{acc:List ez},x∈gs.foldl iR acc->x∈acc\/x∈gs:=by
 induction gs with
 |nil=>intro acc h;exact .inl h
 |cons g gs ih=>
  intro acc h
  rw[List.foldl_cons] at h
  rcases ih h with h|h
  ·rcases E6 h with h|h
   ·exact .inl h
   ·exact .inr (h▸List.mem_cons_self)
  ·exact .inr (List.mem_cons_of_mem _ h)
theorem E7 {rs:List bo} {g:ez} (h:g∈ax rs):∃i,i<rs.length/\g∈(rs.getD i ap).guards:=by
 unfold ax at h
 rcases Cn h with h|h
 ·cases h
 ·obtain⟨r,hr,hg⟩:=List.mem_flatMap.1 h
  obtain⟨i,hi,rfl⟩:=List.getElem_of_mem hr
  exact⟨i,hi,by rw[av ap hi];exact hg⟩
theorem o9 {p:an} (h:aA p=0) {g:ez} (hg:g∈ax p.rules):(0<=g.message/\g.message<p.messages.length)/\(1<=g.coef/\g.coef<=100)/\eh g.bound:=by
 obtain⟨i,hi,hm⟩:=E7 hg
 exact gn ((aL h).rul i hi) hm
def G7 (r:Rw) (B:Int):Prop:=y3 r.1 B/\-B<=r.2/\r.2<=B
theorem KK {l:kG} (h:eh l):G7 (o0 l) 1000:=⟨eN (l5 h) (by omega),by have:=h.1;unfold cD at this;show -1000<=l.c/\l.c<=1000;omega⟩
theorem uO {kind k:Int} {n:Nat} {l:kG} (h:eh l) (hk:k=1\/k=-1):G7 (eM kind n k l) 1000:=by
 refine⟨eN (gm (gm tq (KJ kind n) (K:=1) (by omega)) (l5 h) (K:=1) (by omega)) (by omega),?_⟩
 have:=h.1;unfold cD at this
 show -1000<=-k*l.c/\-k*l.c<=1000
 rcases hk with rfl|rfl
 ·rw[Int.neg_mul,Int.one_mul];omega
 ·rw[Int.neg_neg,Int.one_mul];omega
theorem KL {p:an} {g:ez} {j:Nat} (h:(1<=g.coef/\g.coef<=100)/\eh g.bound):G7 (km p g j) 1000:=by
 have h1:=gm (gm tq (p8 p.rules 5 g.message j 0) (K:=100) (k:=g.coef) (by omega)) (p8 p.rules 6 g.message j 0) (K:=100) (k:=g.coef) (by omega)
 refine⟨?_,?_⟩
 ·unfold km
  dsimp only
  split
  ·exact eN (gm (Ik h1 (K:=100) (by omega) (by omega)) (l5 h.2) (K:=1) (by omega)) (by omega)
  ·exact eN (gm h1 (l5 h.2) (K:=1) (by omega)) (by omega)
 ·have:=h.2.1;unfold cD at this
  show -1000<=-g.bound.c/\-g.bound.c<=1000
  omega
theorem E8 (p:an) (start fire:Int) (x j:Nat):G7 (nD p start fire x j) 1000:=
 ⟨eN (gm tq (uN p.rules start fire x (j+1) 0) (K:=1) (by omega)) (by omega),by show(-1000:Int)<=0/\(0:Int)<=1000;omega⟩
theorem E9 (p:an) (seg:Nat):∀(l:List Int) (c:Co) (B:Int),y3 c B->y3 (l.foldl (fun c x=>cl c 1 (cn p.rules 3 5 x (seg+1) 0)) c) (B+2*l.length)
 |[],c,B,h=>by simpa using h
 |x::l,c,B,h=>by
  rw[List.foldl_cons]
  have:=E9 p seg l _ _ (gm (k:=1) h (uN p.rules 3 5 x (seg+1) 0) (K:=1) (by omega))
  refine eN this ?_
  simp only[List.length_cons]
  omega
theorem E' {p:an} {seg:Nat} {states:List Int} {least:Int} (h:states.length<=6) (hl:0<=least/\least<=3):G7 (lu p seg states least) 1000:=by
 refine⟨eN (E9 p seg states zC 0 tq) (by omega),?_⟩
 show -1000<=-least/\-least<=1000
 omega
theorem KM {p:an} {seg:Nat} {r:bo} {ch:Int} (hg:∀g∈r.guards,(1<=g.coef/\g.coef<=100)/\eh g.bound) (hc:0<=ch/\ch<=r.guards.length):G7 (o7 p seg r ch) 1000:=by
 unfold o7
 split
 ·exact⟨eN (gm tq (uN p.rules 3 5 r.src (seg+1) 0) (K:=1) (by omega)) (by omega),by dsimp only;omega⟩
 ·have hm:=hg _ (aB (l:=r.guards) (k:=(ch-1).toNat) aC (by omega))
  generalize r.guards.getD (ch-1).toNat aC=g at hm
  have h1:=gm tq (p8 p.rules 5 g.message (seg+1) 0) (K:=100) (k:=-g.coef) (by omega)
  refine⟨?_,?_⟩
  ·dsimp only
   split
   ·exact eN (gm (gm h1 (p8 p.rules 6 g.message (seg+1) 0) (K:=100) (k:=-g.coef) (by omega)) (l5 hm.2) (K:=1) (by omega)) (by omega)
   ·exact eN (gm h1 (l5 hm.2) (K:=1) (by omega)) (by omega)
  ·have:=hm.2.1;unfold cD at this
   dsimp only
   omega
theorem Fa {p:an} (h:aA p=0):∀l∈iT p,eh l:=by
 intro l hl
 have hr:=(aL h).res
 have f:∀a b c d:Int,-100<=a/\a<=100->-100<=b/\b<=100->-100<=c/\c<=100->-100<=d/\d<=100->eh ⟨a,b,c,d⟩:=fun a b c d h1 h2 h3 h4=>⟨h1,h2,h3,h4⟩
 unfold iT at hl
 rcases List.mem_append.1 hl with hl|hl
 ·rcases List.mem_append.1 hl with hl|hl
  ·simp only[List.mem_cons,List.not_mem_nil,or_false] at hl
   rcases hl with rfl|rfl|rfl<;>exact f _ _ _ _ (by omega) (by omega) (by omega) (by omega)
  ·split at hl
   ·simp only[List.mem_cons,List.not_mem_nil,or_false] at hl
    rcases hl with rfl|rfl<;>exact f _ _ _ _ (by omega) (by omega) (by omega) (by omega)
   ·simp at hl
 ·obtain⟨i,hi,e⟩:=List.getElem_of_mem hl
  have:=hr i hi
  rwa [av fQ hi,e] at this
theorem KN {p:an}:∀r∈jE p,G7 r 1000:=by
 intro r hr
 have f:∀a b c d:Int,-100<=a/\a<=100->-100<=b/\b<=100->-100<=c/\c<=100->-100<=d/\d<=100->eh ⟨a,b,c,d⟩:=fun a b c d h1 h2 h3 h4=>⟨h1,h2,h3,h4⟩
 unfold jE at hr
 rcases List.mem_append.1 hr with hr|hr
 ·simp only[List.mem_cons,List.not_mem_nil,or_false] at hr
  rcases hr with rfl|rfl
  ·exact uO (f _ _ _ _ (by omega) (by omega) (by omega) (by omega)) (.inl rfl)
  ·exact uO (f _ _ _ _ (by omega) (by omega) (by omega) (by omega)) (.inr rfl)
 ·split at hr
  ·simp only[List.mem_cons,List.not_mem_nil,or_false] at hr
   rcases hr with rfl|rfl
   ·exact uO (f _ _ _ _ (by omega) (by omega) (by omega) (by omega)) (.inl rfl)
   ·exact uO (f _ _ _ _ (by omega) (by omega) (by omega) (by omega)) (.inr rfl)
  ·simp at hr
theorem KO {p:an} (h:aA p=0) {sch:List Int} (hs:da (ax p.rules).length sch) {j:Nat} (hj:j<=sch.length):∀r∈ko p sch j,G7 r 1000:=by
 intro r hr
 unfold ko at hr
 rcases List.mem_append.1 hr with hr|hr
 ·rcases List.mem_append.1 hr with hr|hr
  ·split at hr
   ·rename_i h0
    simp only[List.mem_cons,List.not_mem_nil,or_false] at hr
    subst hr
    have hi:=(hs (j-1) (by omega)).1
    exact KL (o9 h (aB (l:=ax p.rules) aC (by omega))).2
   ·simp at hr
  ·obtain⟨x,_,rfl⟩:=List.mem_map.1 hr
   exact E8 p 3 5 x j
 ·split at hr
  ·obtain⟨x,_,rfl⟩:=List.mem_map.1 hr
   exact E8 p 4 6 x j
  ·simp at hr
theorem Fb (p:an) (q:aG):(uJ p q).length<=p.states.length:=by
 unfold uJ
 have:=List.length_filter_le (fun x=>decide (x∉q.goal)) ((List.range p.states.length).map fun x:Nat=>(x:Int))
 simp only[List.length_map,List.length_range] at this
 omega
theorem KP {p:an} {q:aG} (h:aP p q=0) (seg number:Nat):∀r∈gS p q seg number,G7 r 1000:=by
 intro r hr
 have v:=aF h
 have w:=aL v.vld
 unfold gS at hr
 split at hr
 ·rename_i hk
  obtain⟨c,hc,rfl⟩:=List.mem_map.1 hr
  obtain⟨i,hi,e⟩:=List.getElem_of_mem hc
  have hp:=jB v hk hi
  rw[av br hi,e] at hp
  have:=bv hp.1
  have:=w.len
  exact E' (by omega) (by omega)
 ·rcases List.mem_cons.1 hr with rfl|hr
  ·have:=Fb p q
   have:=w.len
   exact E' (by omega) (by omega)
  ·obtain⟨i,hi,rfl⟩:=List.mem_map.1 hr
   have hi:=List.mem_range.1 hi
   refine KM (fun g hg=>(gn (w.rul i hi) hg).2) ?_
   rw[nB hi]
   have:=yX p.rules number i
   omega
theorem KQ {p:an} {q:aG} (h:aP p q=0) {sch:List Int} (hs:da (ax p.rules).length sch) (number:Int):∀r∈fg p q sch number,G7 r 1000:=by
 intro r hr
 have hv:=(aF h).vld
 unfold fg at hr
 rcases List.mem_append.1 hr with hr|hr
 ·rcases List.mem_append.1 hr with hr|hr
  ·rcases List.mem_append.1 hr with hr|hr
   ·obtain⟨l,hl,rfl⟩:=List.mem_map.1 hr
    exact KK (Fa hv l hl)
   ·exact KN r hr
  ·obtain⟨j,hj,hr⟩:=List.mem_flatMap.1 hr
   have:=List.mem_range.1 hj
   exact KO hv hs (by omega) r hr
 ·split at hr
  ·exact KP h _ _ r hr
  ·simp at hr
theorem nG {α β:Type} (f:α->List β) (B:Nat):∀l:List α,(∀a∈l,(f a).length<=B)->(l.flatMap f).length<=B*l.length
 |[],_=>by simp
 |a::l,h=>by
  have ih:=nG f B l fun x hx=>h x (List.mem_cons_of_mem _ hx)
  have:=h a List.mem_cons_self
  rw[List.flatMap_cons,List.length_append,List.length_cons,Nat.mul_add]
  omega
theorem Fc {p:an} {q:aG} (h:aP p q=0) {sch:List Int} (hs:da (ax p.rules).length sch) (number:Int):(fg p q sch number).length<=100:=by
 have v:=aF h
 have w:=aL v.vld
 have l1:=w.len
 have l2:=w.thr
 have l3:=c5 hs
 have a:(iT p).length<=9:=by unfold iT;rw[List.length_append,List.length_append];split<;>simp<;>omega
 have b:(jE p).length<=4:=by unfold jE;rw[List.length_append];split<;>simp
 have c:((List.range (sch.length+1)).flatMap (ko p sch)).length<=13*(sch.length+1):=by
  have:=nG (ko p sch) 13 (List.range (sch.length+1)) fun j _=>by
   unfold ko
   rw[List.length_append,List.length_append]
   split<;>split<;>simp<;>omega
  simpa using this
 have d:(if 0<=number then gS p q sch.length number.toNat else[]).length<=9:=by
  split
  ·unfold gS
   split
   ·rename_i hk;have:=(v.bad hk).1;simp;omega
   ·simp;omega
  ·simp
 unfold fg
 rw[List.length_append,List.length_append,List.length_append,List.length_map]
 omega
def kq (p:an) (q:aG) (sch:List Int) (number:Int):kp:=⟨((ak p q sch).length:Int),d9 p q sch number⟩
theorem pb {p:an} {q:aG} {sch:List Int} {number:Int} {j:Nat} (hj:j<(d9 p q sch number).length):∃r∈fg p q sch number,(d9 p q sch number).getD j cP=c6 (ak p q sch) r:=by
 have hj':j<(fg p q sch number).length:=by simpa[d9] using hj
 refine⟨(fg p q sch number)[j],List.getElem_mem _,?_⟩
 rw[av cP hj]
 simp[d9]
theorem uP {p:an} {q:aG} (h:aP p q=0) {sch:List Int} (hs:da (ax p.rules).length sch) (number:Int):kL (kq p q sch number)=0:=by
 refine Aw ?_ (fun j hj=>?_) ?_ fun j hj=>?_
 ·have:=eK h hs
  show 0<=((ak p q sch).length:Int)/\((ak p q sch).length:Int)<=96
  omega
 ·obtain⟨r,_,e⟩:=pb hj
  show(((d9 p q sch number).getD j cP).coef.length:Int)=((ak p q sch).length:Int)
  rw[e];simp[c6]
 ·have:=Fc h hs number
  show(d9 p q sch number).length<=192
  unfold d9
  rw[List.length_map]
  omega
 ·obtain⟨r,hr,e⟩:=pb hj
  show uK ((d9 p q sch number).getD j cP)
  rw[e]
  obtain⟨h1,h2⟩:=KQ h hs number r hr
  refine⟨fun i hi=>?_,?_⟩
  ·have hi':i<(ak p q sch).length:=by simpa[c6] using hi
   have:(c6 (ak p q sch) r).coef.getD i 0=r.1 ((ak p q sch).getD i dU):=g9 r.1 hi'
   rw[this]
   have:=h1 ((ak p q sch).getD i dU)
   unfold rA;omega
  ·show rA r.2
   unfold rA;omega
def bk (c a:Co):List Vb->Int
 |[]=>0
 |v::l=>c v*a v+bk c a l
theorem ja (c a:Co) (l m:List Vb):bk c a (l++m)=bk c a l+bk c a m:=by
 induction l with
 |nil=>simp[bk]
 |cons v l ih=>rw[List.cons_append,bk,bk,ih];omega
theorem Fd (c a:Co) (vars:List Vb):∀k,k<=vars.length->pQ (vars.map c) (vars.map a) k=bk c a (vars.take k)
 |0,_=>by simp[pQ,bk]
 |k+1,h=>by
  rw[pQ,Fd c a vars k (by omega),g9 c (by omega),g9 a (by omega),ba dU (by omega),ja,bk,bk]
  omega
theorem Fe (r:Rw) (a:Co) (vars:List Vb):uM (c6 vars r) (vars.map a)=r.2+bk r.1 a vars:=by
 unfold uM c6
 dsimp only
 rw[List.length_map,Fd r.1 a vars _ (Nat.le_refl _),List.take_length]
def iC (vars:List Vb) (x:List Int):Co:=fun v=>x.getD (vars.idxOf v) 0
theorem Ff {vars:List Vb} (hn:vars.Nodup) {x:List Int} (hx:x.length=vars.length):vars.map (iC vars x)=x:=by
 apply List.ext_getElem
 ·simp[hx]
 ·intro i h1 h2
  have hi:i<vars.length:=by simpa using h1
  rw[List.getElem_map]
  unfold iC
  rw[hn.idxOf_getElem i hi,av 0 h2]
theorem dN {c a:Co} {l:List Vb} (h:∀v∈l,c v=0):bk c a l=0:=by
 induction l with
 |nil=>rfl
 |cons v l ih=>rw[bk,h v List.mem_cons_self,ih fun x hx=>h x (List.mem_cons_of_mem _ hx)];simp
theorem y5 {p:an} {q:aG} (h:aP p q=0) {sch:List Int} (hs:da (ax p.rules).length sch) {number:Int} {a:Co}:o8 (kq p q sch number) ((ak p q sch).map a)↔(∀v∈ak p q sch,0<=a v/\a v<=1048576)/\∀r∈fg p q sch number,0<=r.2+bk r.1 a (ak p q sch):=by
 constructor
 ·rintro⟨_,_,h3,h4⟩
  refine⟨fun v hv=>?_,fun r hr=>?_⟩
  ·obtain⟨i,hi,rfl⟩:=List.getElem_of_mem hv
   have:=h3 i (by simpa using hi)
   rwa [g9 a hi,av dU hi] at this
  ·obtain⟨j,hj,rfl⟩:=List.getElem_of_mem hr
   have hj':j<(d9 p q sch number).length:=by simpa[d9] using hj
   have:=h4 j hj'
   have e:(kq p q sch number).rows.getD j cP=c6 (ak p q sch) (fg p q sch number)[j]:=by
    show(d9 p q sch number).getD j cP=_
    rw[av cP hj']
    simp[d9]
   rw[e,Fe] at this
   exact this
 ·rintro⟨h1,h2⟩
  refine⟨uP h hs number,?_,fun j hj=>?_,fun j hj=>?_⟩
  ·show(((ak p q sch).map a).length:Int)=((ak p q sch).length:Int)
   simp
  ·have hj':j<(ak p q sch).length:=by simpa using hj
   rw[g9 a hj']
   exact h1 _ (aB _ hj')
  ·obtain⟨r,hr,e⟩:=pb hj
   show 0<=uM ((d9 p q sch number).getD j cP) _
   rw[e,Fe]
   exact h2 r hr
end Go.Proofs.YtekmminpfhacpaaGreatDoor
