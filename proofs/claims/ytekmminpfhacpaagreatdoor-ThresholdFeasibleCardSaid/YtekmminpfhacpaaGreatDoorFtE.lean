import Derived.Test.YtekmminpfhacpaaGreatDoorP1
import Derived.Test.YtekmminpfhacpaaGreatDoorFuA
set_option linter.unusedVariables false
set_option linter.unusedSimpArgs false
namespace Go.Proofs.YtekmminpfhacpaaGreatDoor
set_option maxRecDepth 100000
set_option maxHeartbeats 8000000
def Bw (c:Co) (B:Int):Prop:=∀v,-B<=c v/\c v<=B
theorem vE:Bw zC 0:=fun _=>⟨by simp[zC],by simp[zC]⟩
theorem fq {c:Co} {B B':Int} (h:Bw c B) (hb:B<=B'):Bw c B':=fun v=>by have:=h v;omega
theorem Bx {a b A B:Int} (ha:-A<=a/\a<=A) (hb:-B<=b/\b<=B):-(A*B)<=a*b/\a*b<=A*B:=by
 have hA:0<=A:=by omega
 have hB:0<=B:=by omega
 have h1:(a*b).natAbs<=(A*B).natAbs:=by
  rw[Int.natAbs_mul,Int.natAbs_mul]
  exact Nat.mul_le_mul (by omega) (by omega)
 have h2:0<=A*B:=Int.mul_nonneg hA hB
 omega
theorem gP {c d:Co} {k B K D:Int} (hc:Bw c B) (hd:Bw d D) (hk:-K<=k/\k<=K):Bw (cB c k d) (B+K*D):=fun v=>by
 have a:=hc v
 have b:=Bx hk (hd v)
 unfold cB
 omega
theorem K6 {c:Co} {v0:Vb} {k B K:Int} (hc:Bw c B) (hk:-K<=k/\k<=K) (hK:0<=K):Bw (eo c v0 k) (B+K):=fun v=>by
 have a:=hc v
 unfold eo
 split<;>omega
theorem np {l:l7} (h:fP l):Bw (gt l) 100:=fun v=>by
 obtain⟨_,h2,h3,h4⟩:=h
 unfold cP at h2 h3 h4
 unfold gt
 (repeat' split)<;>omega
theorem xc (rs:List bE) (start fire state:Int) (j i:Nat):Bw (cG rs start fire state j i) 2:=fun v=>by have:=G6 rs start fire state j i v;omega
theorem rU (rs:List bE) (fire message:Int) (j i:Nat):Bw (cH rs fire message j i) 1:=fun v=>by have:=vC rs fire message j i v;omega
theorem NV (kind:Int) (n:Nat):Bw (uG kind n) 1:=fun v=>by unfold uG;split<;>omega
theorem lB {p:ap} {i:Nat} {r:bE} (h:fM p i r=0) {g:fL} (hg:g∈r.guards):(0<=g.message/\g.message<p.messages.length)/\(1<=g.coef/\g.coef<=100)/\fP g.bound:=by
 obtain⟨_,_,h3,_,_,h6⟩:=jm h
 by_cases k:r.kind=1
 ·unfold fg at h6
  rw[if_pos k] at h6
  have hz:=cq h6 (cF p.messages.length r.guards) (by simp)
  unfold cF at hz
  split at hz
  ·omega
  ·rename_i h0
   have hg0:=cq (show fF (r.guards.map (gE p.messages.length))=0 by omega) _ (List.mem_map.2 ⟨g,hg,rfl⟩)
   have hg1:=cq hg0
   have a:=hg1 (gO g.message p.messages.length) (by simp)
   have b:=hg1 (oa g.coef) (by simp)
   have c:=hg1 (po g.bound) (by simp)
   unfold gO at a
   unfold oa at b
   unfold po at c
   refine⟨?_,?_,?_⟩
   ·split at a<;>omega
   ·split at b<;>omega
   ·split at c
    ·assumption
    ·omega
 ·have:r.guards.length=0:=by unfold ov at h3;omega
  rw[List.length_eq_zero_iff] at this
  rw[this] at hg
  cases hg
theorem He {acc:List fL} {g x:fL} (h:x∈kr acc g):x∈acc\/x=g:=by
 unfold kr at h
 split at h
 ·exact .inl h
 ·rcases List.mem_append.1 h with h|h
  ·exact .inl h
  ·exact .inr (List.mem_singleton.1 h)
theorem EQ {gs:List fL} {x:fL}:∀{acc:List fL},x∈gs.foldl kr acc->x∈acc\/x∈gs:=by
 induction gs with
 |nil=>intro acc h;exact .inl h
 |cons g gs ih=>
  intro acc h
  rw[List.foldl_cons] at h
  rcases ih h with h|h
  ·rcases He h with h|h
   ·exact .inl h
   ·exact .inr (h▸List.mem_cons_self)
  ·exact .inr (List.mem_cons_of_mem _ h)
theorem Hf {rs:List bE} {g:fL} (h:g∈aA rs):∃i,i<rs.length/\g∈(rs.getD i au).guards:=by
 unfold aA at h
 rcases EQ h with h|h
 ·cases h
 ·obtain⟨r,hr,hg⟩:=List.mem_flatMap.1 h
  obtain⟨i,hi,rfl⟩:=List.getElem_of_mem hr
  exact⟨i,hi,by rw[am au hi];exact hg⟩
theorem xd {p:ap} (h:aL p=0) {g:fL} (hg:g∈aA p.rules):(0<=g.message/\g.message<p.messages.length)/\(1<=g.coef/\g.coef<=100)/\fP g.bound:=by
 obtain⟨i,hi,hm⟩:=Hf hg
 exact lB ((a9 h).rul i hi) hm
def JU (r:Rw) (B:Int):Prop:=Bw r.1 B/\-B<=r.2/\r.2<=B
theorem NW {l:l7} (h:fP l):JU (uH l) 1000:=⟨fq (np h) (by omega),by have:=h.1;unfold cP at this;show -1000<=l.c/\l.c<=1000;omega⟩
theorem xf {kind k:Int} {n:Nat} {l:l7} (h:fP l) (hk:k=1\/k=-1):JU (gh kind n k l) 1000:=by
 refine⟨fq (gP (gP vE (NV kind n) (K:=1) (by omega)) (np h) (K:=1) (by omega)) (by omega),?_⟩
 have:=h.1;unfold cP at this
 show -1000<=-k*l.c/\-k*l.c<=1000
 rcases hk with rfl|rfl
 ·rw[Int.neg_mul,Int.one_mul];omega
 ·rw[Int.neg_neg,Int.one_mul];omega
theorem NY {p:ap} {g:fL} {j:Nat} (h:(1<=g.coef/\g.coef<=100)/\fP g.bound):JU (nM p g j) 1000:=by
 have h1:=gP (gP vE (rU p.rules 5 g.message j 0) (K:=100) (k:=g.coef) (by omega)) (rU p.rules 6 g.message j 0) (K:=100) (k:=g.coef) (by omega)
 refine⟨?_,?_⟩
 ·unfold nM
  dsimp only
  split
  ·exact fq (gP (K6 h1 (K:=100) (by omega) (by omega)) (np h.2) (K:=1) (by omega)) (by omega)
  ·exact fq (gP h1 (np h.2) (K:=1) (by omega)) (by omega)
 ·have:=h.2.1;unfold cP at this
  show -1000<=-g.bound.c/\-g.bound.c<=1000
  omega
theorem Hg (p:ap) (start fire:Int) (x j:Nat):JU (tL p start fire x j) 1000:=
 ⟨fq (gP vE (xc p.rules start fire x (j+1) 0) (K:=1) (by omega)) (by omega),by show(-1000:Int)<=0/\(0:Int)<=1000;omega⟩
theorem Hh (p:ap) (seg:Nat):∀(l:List Int) (c:Co) (B:Int),Bw c B->Bw (l.foldl (fun c x=>cB c 1 (cG p.rules 3 5 x (seg+1) 0)) c) (B+2*l.length)
 |[],c,B,h=>by simpa using h
 |x::l,c,B,h=>by
  rw[List.foldl_cons]
  have:=Hh p seg l _ _ (gP (k:=1) h (xc p.rules 3 5 x (seg+1) 0) (K:=1) (by omega))
  refine fq this ?_
  simp only[List.length_cons]
  omega
theorem Hi {p:ap} {seg:Nat} {states:List Int} {least:Int} (h:states.length<=6) (hl:0<=least/\least<=3):JU (xa p seg states least) 1000:=by
 refine⟨fq (Hh p seg states zC 0 vE) (by omega),?_⟩
 show -1000<=-least/\-least<=1000
 omega
theorem NZ {p:ap} {seg:Nat} {r:bE} {ch:Int} (hg:∀g∈r.guards,(1<=g.coef/\g.coef<=100)/\fP g.bound) (hc:0<=ch/\ch<=r.guards.length):JU (uJ p seg r ch) 1000:=by
 unfold uJ
 split
 ·exact⟨fq (gP vE (xc p.rules 3 5 r.src (seg+1) 0) (K:=1) (by omega)) (by omega),by dsimp only;omega⟩
 ·have hm:=hg _ (aH (l:=r.guards) (k:=(ch-1).toNat) aW (by omega))
  generalize r.guards.getD (ch-1).toNat aW=g at hm
  have h1:=gP vE (rU p.rules 5 g.message (seg+1) 0) (K:=100) (k:=-g.coef) (by omega)
  refine⟨?_,?_⟩
  ·dsimp only
   split
   ·exact fq (gP (gP h1 (rU p.rules 6 g.message (seg+1) 0) (K:=100) (k:=-g.coef) (by omega)) (np hm.2) (K:=1) (by omega)) (by omega)
   ·exact fq (gP h1 (np hm.2) (K:=1) (by omega)) (by omega)
  ·have:=hm.2.1;unfold cP at this
   dsimp only
   omega
theorem Hj {p:ap} (h:aL p=0):∀l∈ky p,fP l:=by
 intro l hl
 have hr:=(a9 h).res
 have f:∀a b c d:Int,-100<=a/\a<=100->-100<=b/\b<=100->-100<=c/\c<=100->-100<=d/\d<=100->fP ⟨a,b,c,d⟩:=fun a b c d h1 h2 h3 h4=>⟨h1,h2,h3,h4⟩
 unfold ky at hl
 rcases List.mem_append.1 hl with hl|hl
 ·rcases List.mem_append.1 hl with hl|hl
  ·simp only[List.mem_cons,List.not_mem_nil,or_false] at hl
   rcases hl with rfl|rfl|rfl<;>exact f _ _ _ _ (by omega) (by omega) (by omega) (by omega)
  ·split at hl
   ·simp only[List.mem_cons,List.not_mem_nil,or_false] at hl
    rcases hl with rfl|rfl<;>exact f _ _ _ _ (by omega) (by omega) (by omega) (by omega)
   ·simp at hl
 ·obtain⟨i,hi,e⟩:=List.getElem_of_mem hl
  have:=hr i hi
  rwa [am ik hi,e] at this
theorem N4 {p:ap}:∀r∈lV p,JU r 1000:=by
 intro r hr
 have f:∀a b c d:Int,-100<=a/\a<=100->-100<=b/\b<=100->-100<=c/\c<=100->-100<=d/\d<=100->fP ⟨a,b,c,d⟩:=fun a b c d h1 h2 h3 h4=>⟨h1,h2,h3,h4⟩
 unfold lV at hr
 rcases List.mem_append.1 hr with hr|hr
 ·simp only[List.mem_cons,List.not_mem_nil,or_false] at hr
  rcases hr with rfl|rfl
  ·exact xf (f _ _ _ _ (by omega) (by omega) (by omega) (by omega)) (.inl rfl)
  ·exact xf (f _ _ _ _ (by omega) (by omega) (by omega) (by omega)) (.inr rfl)
 ·split at hr
  ·simp only[List.mem_cons,List.not_mem_nil,or_false] at hr
   rcases hr with rfl|rfl
   ·exact xf (f _ _ _ _ (by omega) (by omega) (by omega) (by omega)) (.inl rfl)
   ·exact xf (f _ _ _ _ (by omega) (by omega) (by omega) (by omega)) (.inr rfl)
  ·simp at hr
theorem N5 {p:ap} (h:aL p=0) {sch:List Int} (hs:dM (aA p.rules).length sch) {j:Nat} (hj:j<=sch.length):∀r∈lW p sch j,JU r 1000:=by
 intro r hr
 unfold lW at hr
 rcases List.mem_append.1 hr with hr|hr
 ·rcases List.mem_append.1 hr with hr|hr
  ·split at hr
   ·rename_i h0
    simp only[List.mem_cons,List.not_mem_nil,or_false] at hr
    subst hr
    have hi:=(hs (j-1) (by omega)).1
    exact NY (xd h (aH (l:=aA p.rules) aW (by omega))).2
   ·simp at hr
  ·obtain⟨x,_,rfl⟩:=List.mem_map.1 hr
   exact Hg p 3 5 x j
 ·split at hr
  ·obtain⟨x,_,rfl⟩:=List.mem_map.1 hr
   exact Hg p 4 6 x j
  ·simp at hr
theorem Hk (p:ap) (q:aJ):(K3 p q).length<=p.states.length:=by
 unfold K3
 have:=List.length_filter_le (fun x=>decide (x∉q.goal)) ((List.range p.states.length).map fun x:Nat=>(x:Int))
 simp only[List.length_map,List.length_range] at this
 omega
theorem N6 {p:ap} {q:aJ} (h:bF p q=0) (seg number:Nat):∀r∈qI p q seg number,JU r 1000:=by
 intro r hr
 have v:=bf h
 have w:=a9 v.vld
 unfold qI at hr
 split at hr
 ·rename_i hk
  obtain⟨c,hc,rfl⟩:=List.mem_map.1 hr
  obtain⟨i,hi,e⟩:=List.getElem_of_mem hc
  have hp:=qF v hk hi
  rw[am dv hi,e] at hp
  have:=bS hp.1
  have:=w.len
  exact Hi (by omega) (by omega)
 ·rcases List.mem_cons.1 hr with rfl|hr
  ·have:=Hk p q
   have:=w.len
   exact Hi (by omega) (by omega)
  ·obtain⟨i,hi,rfl⟩:=List.mem_map.1 hr
   have hi:=List.mem_range.1 hi
   refine NZ (fun g hg=>(lB (w.rul i hi) hg).2) ?_
   rw[w8 hi]
   have:=G4 p.rules number i
   omega
theorem N7 {p:ap} {q:aJ} (h:bF p q=0) {sch:List Int} (hs:dM (aA p.rules).length sch) (number:Int):∀r∈iQ p q sch number,JU r 1000:=by
 intro r hr
 have hv:=(bf h).vld
 unfold iQ at hr
 rcases List.mem_append.1 hr with hr|hr
 ·rcases List.mem_append.1 hr with hr|hr
  ·rcases List.mem_append.1 hr with hr|hr
   ·obtain⟨l,hl,rfl⟩:=List.mem_map.1 hr
    exact NW (Hj hv l hl)
   ·exact N4 r hr
  ·obtain⟨j,hj,hr⟩:=List.mem_flatMap.1 hr
   have:=List.mem_range.1 hj
   exact N5 hv hs (by omega) r hr
 ·split at hr
  ·exact N6 h _ _ r hr
  ·simp at hr
theorem pC {α β:Type} (f:α->List β) (B:Nat):∀l:List α,(∀a∈l,(f a).length<=B)->(l.flatMap f).length<=B*l.length
 |[],_=>by simp
 |a::l,h=>by
  have ih:=pC f B l fun x hx=>h x (List.mem_cons_of_mem _ hx)
  have:=h a List.mem_cons_self
  rw[List.flatMap_cons,List.length_append,List.length_cons,Nat.mul_add]
  omega
theorem Hl {p:ap} {q:aJ} (h:bF p q=0) {sch:List Int} (hs:dM (aA p.rules).length sch) (number:Int):(iQ p q sch number).length<=100:=by
 have v:=bf h
 have w:=a9 v.vld
 have l1:=w.len
 have l2:=w.thr
 have l3:=gf hs
 have a:(ky p).length<=9:=by unfold ky;rw[List.length_append,List.length_append];split<;>simp<;>omega
 have b:(lV p).length<=4:=by unfold lV;rw[List.length_append];split<;>simp
 have c:((List.range (sch.length+1)).flatMap (lW p sch)).length<=13*(sch.length+1):=by
  have:=pC (lW p sch) 13 (List.range (sch.length+1)) fun j _=>by
   unfold lW
   rw[List.length_append,List.length_append]
   split<;>split<;>simp<;>omega
  simpa using this
 have d:(if 0<=number then qI p q sch.length number.toNat else[]).length<=9:=by
  split
  ·unfold qI
   split
   ·rename_i hk;have:=(v.bad hk).1;simp;omega
   ·simp;omega
  ·simp
 unfold iQ
 rw[List.length_append,List.length_append,List.length_append,List.length_map]
 omega
def jn (p:ap) (q:aJ) (sch:List Int) (number:Int):dN:=⟨((ao p q sch).length:Int),eg p q sch number⟩
theorem qJ {p:ap} {q:aJ} {sch:List Int} {number:Int} {j:Nat} (hj:j<(eg p q sch number).length):∃r∈iQ p q sch number,(eg p q sch number).getD j av=dj (ao p q sch) r:=by
 have hj':j<(iQ p q sch number).length:=by simpa[eg] using hj
 refine⟨(iQ p q sch number)[j],List.getElem_mem _,?_⟩
 rw[am av hj]
 simp[eg]
theorem xg {p:ap} {q:aJ} (h:bF p q=0) {sch:List Int} (hs:dM (aA p.rules).length sch) (number:Int):fH (jn p q sch number)=0:=by
 refine xb ?_ (fun j hj=>?_) ?_ fun j hj=>?_
 ·have:=kw h hs
  show 0<=((ao p q sch).length:Int)/\((ao p q sch).length:Int)<=96
  omega
 ·obtain⟨r,_,e⟩:=qJ hj
  show(((eg p q sch number).getD j av).coef.length:Int)=((ao p q sch).length:Int)
  rw[e];simp[dj]
 ·have:=Hl h hs number
  show(eg p q sch number).length<=192
  unfold eg
  rw[List.length_map]
  omega
 ·obtain⟨r,hr,e⟩:=qJ hj
  show lz ((eg p q sch number).getD j av)
  rw[e]
  obtain⟨h1,h2⟩:=N7 h hs number r hr
  refine⟨fun i hi=>?_,?_⟩
  ·have hi':i<(ao p q sch).length:=by simpa[dj] using hi
   have:(dj (ao p q sch) r).coef.getD i 0=r.1 ((ao p q sch).getD i im):=ly r.1 hi'
   rw[this]
   have:=h1 ((ao p q sch).getD i im)
   unfold iB;omega
  ·show iB r.2
   unfold iB;omega
def cg (c a:Co):List Vb->Int
 |[]=>0
 |v::l=>c v*a v+cg c a l
theorem lD (c a:Co) (l m:List Vb):cg c a (l++m)=cg c a l+cg c a m:=by
 induction l with
 |nil=>simp[cg]
 |cons v l ih=>rw[List.cons_append,cg,cg,ih];omega
theorem Hm (c a:Co) (vars:List Vb):∀k,k<=vars.length->dw (vars.map c) (vars.map a) k=cg c a (vars.take k)
 |0,_=>by simp[dw,cg]
 |k+1,h=>by
  rw[dw,Hm c a vars k (by omega),ly c (by omega),ly a (by omega),bM im (by omega),lD,cg,cg]
  omega
theorem Hn (r:Rw) (a:Co) (vars:List Vb):kC (dj vars r) (vars.map a)=r.2+cg r.1 a vars:=by
 unfold kC dj
 dsimp only
 rw[List.length_map,Hm r.1 a vars _ (Nat.le_refl _),List.take_length]
def j0 (vars:List Vb) (x:List Int):Co:=fun v=>x.getD (vars.idxOf v) 0
theorem Ho {vars:List Vb} (hn:vars.Nodup) {x:List Int} (hx:x.length=vars.length):vars.map (j0 vars x)=x:=by
 apply List.ext_getElem
 ·simp[hx]
 ·intro i h1 h2
  have hi:i<vars.length:=by simpa using h1
  rw[List.getElem_map]
  unfold j0
  rw[hn.idxOf_getElem i hi,am 0 h2]
theorem eK {c a:Co} {l:List Vb} (h:∀v∈l,c v=0):cg c a l=0:=by
 induction l with
 |nil=>rfl
 |cons v l ih=>rw[cg,h v List.mem_cons_self,ih fun x hx=>h x (List.mem_cons_of_mem _ hx)];simp
theorem Hp {p:ap} {q:aJ} (h:bF p q=0) {sch:List Int} (hs:dM (aA p.rules).length sch) {number:Int} {a:Co}:pB (jn p q sch number) ((ao p q sch).map a)↔(∀v∈ao p q sch,0<=a v/\a v<=1048576)/\∀r∈iQ p q sch number,0<=r.2+cg r.1 a (ao p q sch):=by
 constructor
 ·rintro⟨_,_,h3,h4⟩
  refine⟨fun v hv=>?_,fun r hr=>?_⟩
  ·obtain⟨i,hi,rfl⟩:=List.getElem_of_mem hv
   have:=h3 i (by simpa using hi)
   rwa [ly a hi,am im hi] at this
  ·obtain⟨j,hj,rfl⟩:=List.getElem_of_mem hr
   have hj':j<(eg p q sch number).length:=by simpa[eg] using hj
   have:=h4 j hj'
   have e:(jn p q sch number).rows.getD j av=dj (ao p q sch) (iQ p q sch number)[j]:=by
    show(eg p q sch number).getD j av=_
    rw[am av hj']
    simp[eg]
   rw[e,Hn] at this
   exact this
 ·rintro⟨h1,h2⟩
  refine⟨xg h hs number,?_,fun j hj=>?_,fun j hj=>?_⟩
  ·show(((ao p q sch).map a).length:Int)=((ao p q sch).length:Int)
   simp
  ·have hj':j<(ao p q sch).length:=by simpa using hj
   rw[ly a hj']
   exact h1 _ (aH _ hj')
  ·obtain⟨r,hr,e⟩:=qJ hj
   show 0<=kC ((eg p q sch number).getD j av) _
   rw[e,Hn]
   exact h2 r hr
end Go.Proofs.YtekmminpfhacpaaGreatDoor
