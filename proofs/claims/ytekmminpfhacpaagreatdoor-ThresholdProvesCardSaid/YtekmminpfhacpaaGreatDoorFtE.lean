import Derived.Test.YtekmminpfhacpaaGreatDoorP1
import Derived.Test.YtekmminpfhacpaaGreatDoorFuA
set_option linter.unusedVariables false
set_option linter.unusedSimpArgs false
namespace Go.Proofs.YtekmminpfhacpaaGreatDoor
set_option maxRecDepth 100000
set_option maxHeartbeats 8000000
def Bn (c:Co) (B:Int):Prop:=∀v,-B<=c v/\c v<=B
theorem vQ:Bn zC 0:=fun _=>⟨by simp[zC],by simp[zC]⟩
theorem fN {c:Co} {B B':Int} (h:Bn c B) (hb:B<=B'):Bn c B':=fun v=>by have:=h v;omega
theorem xb {a b A B:Int} (ha:-A<=a/\a<=A) (hb:-B<=b/\b<=B):-(A*B)<=a*b/\a*b<=A*B:=by
 have hA:0<=A:=by omega
 have hB:0<=B:=by omega
 have h1:(a*b).natAbs<=(A*B).natAbs:=by
  rw[Int.natAbs_mul,Int.natAbs_mul]
  exact Nat.mul_le_mul (by omega) (by omega)
 have h2:0<=A*B:=Int.mul_nonneg hA hB
 omega
theorem ib {c d:Co} {k B K D:Int} (hc:Bn c B) (hd:Bn d D) (hk:-K<=k/\k<=K):Bn (bo c k d) (B+K*D):=fun v=>by
 have a:=hc v
 have b:=xb hk (hd v)
 unfold bo
 omega
theorem JQ {c:Co} {v0:Vb} {k B K:Int} (hc:Bn c B) (hk:-K<=k/\k<=K) (hK:0<=K):Bn (fq c v0 k) (B+K):=fun v=>by
 have a:=hc v
 unfold fq
 split<;>omega
theorem nk {l:lp} (h:eY l):Bn (bH l) 100:=fun v=>by
 obtain⟨_,h2,h3,h4⟩:=h
 unfold cd at h2 h3 h4
 unfold bH
 (repeat' split)<;>omega
theorem xc (rs:List cf) (start fire state:Int) (j i:Nat):Bn (dE rs start fire state j i) 2:=fun v=>by have:=Gt rs start fire state j i v;omega
theorem rY (rs:List cf) (fire message:Int) (j i:Nat):Bn (c7 rs fire message j i) 1:=fun v=>by have:=vP rs fire message j i v;omega
theorem L4 (kind:Int) (n:Nat):Bn (tP kind n) 1:=fun v=>by unfold tP;split<;>omega
theorem ly {p:av} {i:Nat} {r:cf} (h:da p i r=0) {g:fH} (hg:g∈r.guards):(0<=g.message/\g.message<p.messages.length)/\(1<=g.coef/\g.coef<=100)/\eY g.bound:=by
 obtain⟨_,_,h3,_,_,h6⟩:=jz h
 by_cases k:r.kind=1
 ·unfold dN at h6
  rw[if_pos k] at h6
  have hz:=cI h6 (ci p.messages.length r.guards) (by simp)
  unfold ci at hz
  split at hz
  ·omega
  ·rename_i h0
   have hg0:=cI (show dH (r.guards.map (gE p.messages.length))=0 by omega) _ (List.mem_map.2 ⟨g,hg,rfl⟩)
   have hg1:=cI hg0
   have a:=hg1 (dA g.message p.messages.length) (by simp)
   have b:=hg1 (mB g.coef) (by simp)
   have c:=hg1 (pk g.bound) (by simp)
   unfold dA at a
   unfold mB at b
   unfold pk at c
   refine⟨?_,?_,?_⟩
   ·split at a<;>omega
   ·split at b<;>omega
   ·split at c
    ·assumption
    ·omega
 ·have:r.guards.length=0:=by unfold jI at h3;omega
  rw[List.length_eq_zero_iff] at this
  rw[this] at hg
  cases hg
theorem GE {acc:List fH} {g x:fH} (h:x∈jJ acc g):x∈acc\/x=g:=by
 unfold jJ at h
 split at h
 ·exact .inl h
 ·rcases List.mem_append.1 h with h|h
  ·exact .inl h
  ·exact .inr (List.mem_singleton.1 h)
theorem Ev {gs:List fH} {x:fH}:∀{acc:List fH},x∈gs.foldl jJ acc->x∈acc\/x∈gs:=by
 induction gs with
 |nil=>intro acc h;exact .inl h
 |cons g gs ih=>
  intro acc h
  rw[List.foldl_cons] at h
  rcases ih h with h|h
  ·rcases GE h with h|h
   ·exact .inl h
   ·exact .inr (h▸List.mem_cons_self)
  ·exact .inr (List.mem_cons_of_mem _ h)
theorem GF {rs:List cf} {g:fH} (h:g∈ay rs):∃i,i<rs.length/\g∈(rs.getD i ax).guards:=by
 unfold ay at h
 rcases Ev h with h|h
 ·cases h
 ·obtain⟨r,hr,hg⟩:=List.mem_flatMap.1 h
  obtain⟨i,hi,rfl⟩:=List.getElem_of_mem hr
  exact⟨i,hi,by rw[ap ax hi];exact hg⟩
theorem xd {p:av} (h:aX p=0) {g:fH} (hg:g∈ay p.rules):(0<=g.message/\g.message<p.messages.length)/\(1<=g.coef/\g.coef<=100)/\eY g.bound:=by
 obtain⟨i,hi,hm⟩:=GF hg
 exact ly ((aN h).rul i hi) hm
def IE (r:Rw) (B:Int):Prop:=Bn r.1 B/\-B<=r.2/\r.2<=B
theorem L5 {l:lp} (h:eY l):IE (qz l) 1000:=⟨fN (nk h) (by omega),by have:=h.1;unfold cd at this;show -1000<=l.c/\l.c<=1000;omega⟩
theorem xf {kind k:Int} {n:Nat} {l:lp} (h:eY l) (hk:k=1\/k=-1):IE (jK kind n k l) 1000:=by
 refine⟨fN (ib (ib vQ (L4 kind n) (K:=1) (by omega)) (nk h) (K:=1) (by omega)) (by omega),?_⟩
 have:=h.1;unfold cd at this
 show -1000<=-k*l.c/\-k*l.c<=1000
 rcases hk with rfl|rfl
 ·rw[Int.neg_mul,Int.one_mul];omega
 ·rw[Int.neg_neg,Int.one_mul];omega
theorem L6 {p:av} {g:fH} {j:Nat} (h:(1<=g.coef/\g.coef<=100)/\eY g.bound):IE (qA p g j) 1000:=by
 have h1:=ib (ib vQ (rY p.rules 5 g.message j 0) (K:=100) (k:=g.coef) (by omega)) (rY p.rules 6 g.message j 0) (K:=100) (k:=g.coef) (by omega)
 refine⟨?_,?_⟩
 ·unfold qA
  dsimp only
  split
  ·exact fN (ib (JQ h1 (K:=100) (by omega) (by omega)) (nk h.2) (K:=1) (by omega)) (by omega)
  ·exact fN (ib h1 (nk h.2) (K:=1) (by omega)) (by omega)
 ·have:=h.2.1;unfold cd at this
  show -1000<=-g.bound.c/\-g.bound.c<=1000
  omega
theorem GG (p:av) (start fire:Int) (x j:Nat):IE (Er p start fire x j) 1000:=
 ⟨fN (ib vQ (xc p.rules start fire x (j+1) 0) (K:=1) (by omega)) (by omega),by show(-1000:Int)<=0/\(0:Int)<=1000;omega⟩
theorem GH (p:av) (seg:Nat):∀(l:List Int) (c:Co) (B:Int),Bn c B->Bn (l.foldl (fun c x=>bo c 1 (dE p.rules 3 5 x (seg+1) 0)) c) (B+2*l.length)
 |[],c,B,h=>by simpa using h
 |x::l,c,B,h=>by
  rw[List.foldl_cons]
  have:=GH p seg l _ _ (ib (k:=1) h (xc p.rules 3 5 x (seg+1) 0) (K:=1) (by omega))
  refine fN this ?_
  simp only[List.length_cons]
  omega
theorem GI {p:av} {seg:Nat} {states:List Int} {least:Int} (h:states.length<=6) (hl:0<=least/\least<=3):IE (uP p seg states least) 1000:=by
 refine⟨fN (GH p seg states zC 0 vQ) (by omega),?_⟩
 show -1000<=-least/\-least<=1000
 omega
theorem L7 {p:av} {seg:Nat} {r:cf} {ch:Int} (hg:∀g∈r.guards,(1<=g.coef/\g.coef<=100)/\eY g.bound) (hc:0<=ch/\ch<=r.guards.length):IE (rF p seg r ch) 1000:=by
 unfold rF
 split
 ·exact⟨fN (ib vQ (xc p.rules 3 5 r.src (seg+1) 0) (K:=1) (by omega)) (by omega),by dsimp only;omega⟩
 ·have hm:=hg _ (bu (l:=r.guards) (k:=(ch-1).toNat) aM (by omega))
  generalize r.guards.getD (ch-1).toNat aM=g at hm
  have h1:=ib vQ (rY p.rules 5 g.message (seg+1) 0) (K:=100) (k:=-g.coef) (by omega)
  refine⟨?_,?_⟩
  ·dsimp only
   split
   ·exact fN (ib (ib h1 (rY p.rules 6 g.message (seg+1) 0) (K:=100) (k:=-g.coef) (by omega)) (nk hm.2) (K:=1) (by omega)) (by omega)
   ·exact fN (ib h1 (nk hm.2) (K:=1) (by omega)) (by omega)
  ·have:=hm.2.1;unfold cd at this
   dsimp only
   omega
theorem GJ {p:av} (h:aX p=0):∀l∈i9 p,eY l:=by
 intro l hl
 have hr:=(aN h).res
 have f:∀a b c d:Int,-100<=a/\a<=100->-100<=b/\b<=100->-100<=c/\c<=100->-100<=d/\d<=100->eY ⟨a,b,c,d⟩:=fun a b c d h1 h2 h3 h4=>⟨h1,h2,h3,h4⟩
 unfold i9 at hl
 rcases List.mem_append.1 hl with hl|hl
 ·rcases List.mem_append.1 hl with hl|hl
  ·simp only[List.mem_cons,List.not_mem_nil,or_false] at hl
   rcases hl with rfl|rfl|rfl<;>exact f _ _ _ _ (by omega) (by omega) (by omega) (by omega)
  ·split at hl
   ·simp only[List.mem_cons,List.not_mem_nil,or_false] at hl
    rcases hl with rfl|rfl<;>exact f _ _ _ _ (by omega) (by omega) (by omega) (by omega)
   ·simp at hl
 ·obtain⟨i,hi,e⟩:=List.getElem_of_mem hl
  have:=hr i hi
  rwa [ap eX hi,e] at this
theorem L8 {p:av}:∀r∈oh p,IE r 1000:=by
 intro r hr
 have f:∀a b c d:Int,-100<=a/\a<=100->-100<=b/\b<=100->-100<=c/\c<=100->-100<=d/\d<=100->eY ⟨a,b,c,d⟩:=fun a b c d h1 h2 h3 h4=>⟨h1,h2,h3,h4⟩
 unfold oh at hr
 rcases List.mem_append.1 hr with hr|hr
 ·simp only[List.mem_cons,List.not_mem_nil,or_false] at hr
  rcases hr with rfl|rfl
  ·exact xf (f _ _ _ _ (by omega) (by omega) (by omega) (by omega)) (.inl rfl)
  ·exact xf (f _ _ _ _ (by omega) (by omega) (by omega) (by omega)) (.inr rfl)
 ·split at hr
  ·simp only[List.mem_cons,List.not_mem_nil,or_false] at hr
   rcases hr with rfl|rfl
   ·exact xf (f _ _ _ _ (by omega) (by omega) (by omega) (by omega)) (.inl rfl)
   ·exact xf (f _ _ _ _ (by omega) (by omega) (by omega) (by omega)) (.inr rfl)
  ·simp at hr
theorem L9 {p:av} (h:aX p=0) {sch:List Int} (hs:dS (ay p.rules).length sch) {j:Nat} (hj:j<=sch.length):∀r∈oi p sch j,IE r 1000:=by
 intro r hr
 unfold oi at hr
 rcases List.mem_append.1 hr with hr|hr
 ·rcases List.mem_append.1 hr with hr|hr
  ·split at hr
   ·rename_i h0
    simp only[List.mem_cons,List.not_mem_nil,or_false] at hr
    subst hr
    have hi:=(hs (j-1) (by omega)).1
    exact L6 (xd h (bu (l:=ay p.rules) aM (by omega))).2
   ·simp at hr
  ·obtain⟨x,_,rfl⟩:=List.mem_map.1 hr
   exact GG p 3 5 x j
 ·split at hr
  ·obtain⟨x,_,rfl⟩:=List.mem_map.1 hr
   exact GG p 4 6 x j
  ·simp at hr
theorem GK (p:av) (q:aP):(Bk p q).length<=p.states.length:=by
 unfold Bk
 have:=List.length_filter_le (fun x=>decide (x∉q.goal)) ((List.range p.states.length).map fun x:Nat=>(x:Int))
 simp only[List.length_map,List.length_range] at this
 omega
theorem L' {p:av} {q:aP} (h:bD p q=0) (seg number:Nat):∀r∈oj p q seg number,IE r 1000:=by
 intro r hr
 have v:=aW h
 have w:=aN v.vld
 unfold oj at hr
 split at hr
 ·rename_i hk
  obtain⟨c,hc,rfl⟩:=List.mem_map.1 hr
  obtain⟨i,hi,e⟩:=List.getElem_of_mem hc
  have hp:=ni v hk hi
  rw[ap b9 hi,e] at hp
  have:=bN hp.1
  have:=w.len
  exact GI (by omega) (by omega)
 ·rcases List.mem_cons.1 hr with rfl|hr
  ·have:=GK p q
   have:=w.len
   exact GI (by omega) (by omega)
  ·obtain⟨i,hi,rfl⟩:=List.mem_map.1 hr
   have hi:=List.mem_range.1 hi
   refine L7 (fun g hg=>(ly (w.rul i hi) hg).2) ?_
   rw[rX hi]
   have:=Bj p.rules number i
   omega
theorem Ma {p:av} {q:aP} (h:bD p q=0) {sch:List Int} (hs:dS (ay p.rules).length sch) (number:Int):∀r∈tQ p q sch number,IE r 1000:=by
 intro r hr
 have hv:=(aW h).vld
 unfold tQ at hr
 rcases List.mem_append.1 hr with hr|hr
 ·rcases List.mem_append.1 hr with hr|hr
  ·rcases List.mem_append.1 hr with hr|hr
   ·obtain⟨l,hl,rfl⟩:=List.mem_map.1 hr
    exact L5 (GJ hv l hl)
   ·exact L8 r hr
  ·obtain⟨j,hj,hr⟩:=List.mem_flatMap.1 hr
   have:=List.mem_range.1 hj
   exact L9 hv hs (by omega) r hr
 ·split at hr
  ·exact L' h _ _ r hr
  ·simp at hr
theorem rZ {α β:Type} (f:α->List β) (B:Nat):∀l:List α,(∀a∈l,(f a).length<=B)->(l.flatMap f).length<=B*l.length
 |[],_=>by simp
 |a::l,h=>by
  have ih:=rZ f B l fun x hx=>h x (List.mem_cons_of_mem _ hx)
  have:=h a List.mem_cons_self
  rw[List.flatMap_cons,List.length_append,List.length_cons,Nat.mul_add]
  omega
theorem GL {p:av} {q:aP} (h:bD p q=0) {sch:List Int} (hs:dS (ay p.rules).length sch) (number:Int):(tQ p q sch number).length<=100:=by
 have v:=aW h
 have w:=aN v.vld
 have l1:=w.len
 have l2:=w.thr
 have l3:=cu hs
 have a:(i9 p).length<=9:=by unfold i9;rw[List.length_append,List.length_append];split<;>simp<;>omega
 have b:(oh p).length<=4:=by unfold oh;rw[List.length_append];split<;>simp
 have c:((List.range (sch.length+1)).flatMap (oi p sch)).length<=13*(sch.length+1):=by
  have:=rZ (oi p sch) 13 (List.range (sch.length+1)) fun j _=>by
   unfold oi
   rw[List.length_append,List.length_append]
   split<;>split<;>simp<;>omega
  simpa using this
 have d:(if 0<=number then oj p q sch.length number.toNat else[]).length<=9:=by
  split
  ·unfold oj
   split
   ·rename_i hk;have:=(v.bad hk).1;simp;omega
   ·simp;omega
  ·simp
 unfold tQ
 rw[List.length_append,List.length_append,List.length_append,List.length_map]
 omega
def gg (p:av) (q:aP) (sch:List Int) (number:Int):dF:=⟨((az p q sch).length:Int),gy p q sch number⟩
theorem vR {p:av} {q:aP} {sch:List Int} {number:Int} {j:Nat} (hj:j<(gy p q sch number).length):∃r∈tQ p q sch number,(gy p q sch number).getD j ar=aQ (az p q sch) r:=by
 have hj':j<(tQ p q sch number).length:=by simpa[gy] using hj
 refine⟨(tQ p q sch number)[j],List.getElem_mem _,?_⟩
 rw[ap ar hj]
 simp[gy]
theorem nl {p:av} {q:aP} (h:bD p q=0) {sch:List Int} (hs:dS (ay p.rules).length sch) (number:Int):eZ (gg p q sch number)=0:=by
 refine xa ?_ (fun j hj=>?_) ?_ fun j hj=>?_
 ·have:=iE h hs
  show 0<=((az p q sch).length:Int)/\((az p q sch).length:Int)<=96
  omega
 ·obtain⟨r,_,e⟩:=vR hj
  show(((gy p q sch number).getD j ar).coef.length:Int)=((az p q sch).length:Int)
  rw[e];simp[aQ]
 ·have:=GL h hs number
  show(gy p q sch number).length<=192
  unfold gy
  rw[List.length_map]
  omega
 ·obtain⟨r,hr,e⟩:=vR hj
  show mH ((gy p q sch number).getD j ar)
  rw[e]
  obtain⟨h1,h2⟩:=Ma h hs number r hr
  refine⟨fun i hi=>?_,?_⟩
  ·have hi':i<(az p q sch).length:=by simpa[aQ] using hi
   have:(aQ (az p q sch) r).coef.getD i 0=r.1 ((az p q sch).getD i d8):=df r.1 hi'
   rw[this]
   have:=h1 ((az p q sch).getD i d8)
   unfold ia;omega
  ·show ia r.2
   unfold ia;omega
def uE (c a:Co):List Vb->Int
 |[]=>0
 |v::l=>c v*a v+uE c a l
end Go.Proofs.YtekmminpfhacpaaGreatDoor
