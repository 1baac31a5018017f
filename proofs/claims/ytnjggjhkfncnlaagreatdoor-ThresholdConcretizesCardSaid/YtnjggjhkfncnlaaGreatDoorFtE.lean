import Derived.Test.YtnjggjhkfncnlaaGreatDoorP1
import Derived.Test.YtnjggjhkfncnlaaGreatDoorPlR
import Derived.Test.YtnjggjhkfncnlaaGreatDoorFuA
set_option linter.unusedVariables false
set_option linter.unusedSimpArgs false
namespace Go.Proofs.YtnjggjhkfncnlaaGreatDoor
set_option maxRecDepth 100000
set_option maxHeartbeats 8000000
def xc (c:Co) (B:Int):Prop:=∀v,-B<=c v/\c v<=B
theorem rQ:xc zC 0:=fun _=>⟨by simp[zC],by simp[zC]⟩
theorem eM {c:Co} {B B':Int} (h:xc c B) (hb:B<=B'):xc c B':=fun v=>by have:=h v;omega
theorem tg {a b A B:Int} (ha:-A<=a/\a<=A) (hb:-B<=b/\b<=B):-(A*B)<=a*b/\a*b<=A*B:=by
 have hA:0<=A:=by omega
 have hB:0<=B:=by omega
 have h1:(a*b).natAbs<=(A*B).natAbs:=by
  rw[Int.natAbs_mul,Int.natAbs_mul]
  exact Nat.mul_le_mul (by omega) (by omega)
 have h2:0<=A*B:=Int.mul_nonneg hA hB
 omega
theorem fZ {c d:Co} {k B K D:Int} (hc:xc c B) (hd:xc d D) (hk:-K<=k/\k<=K):xc (ba c k d) (B+K*D):=fun v=>by
 have a:=hc v
 have b:=tg hk (hd v)
 unfold ba
 omega
theorem Fb {c:Co} {v0:Vb} {k B K:Int} (hc:xc c B) (hk:-K<=k/\k<=K) (hK:0<=K):xc (d6 c v0 k) (B+K):=fun v=>by
 have a:=hc v
 unfold d6
 split<;>omega
theorem k8 {l:g7} (h:c6 l):xc (bf l) 100:=fun v=>by
 obtain⟨_,h2,h3,h4⟩:=h
 unfold bO at h2 h3 h4
 unfold bf
 (repeat' split)<;>omega
theorem th (rs:List bp) (start fire state:Int) (j i:Nat):xc (cW rs start fire state j i) 2:=fun v=>by have:=BZ rs start fire state j i v;omega
theorem oH (rs:List bp) (fire message:Int) (j i:Nat):xc (cX rs fire message j i) 1:=fun v=>by have:=rP rs fire message j i v;omega
theorem G7 (kind:Int) (n:Nat):xc (oq kind n) 1:=fun v=>by unfold oq;split<;>omega
theorem jJ {p:au} {i:Nat} {r:bp} (h:cg p i r=0) {g:eg} (hg:g∈r.guards):(0<=g.message/\g.message<p.messages.length)/\(1<=g.coef/\g.coef<=100)/\c6 g.bound:=by
 obtain⟨_,_,h3,_,_,h6⟩:=hH h
 by_cases k:r.kind=1
 ·unfold c7 at h6
  rw[if_pos k] at h6
  have hz:=ci h6 (aG p.messages.length r.guards) (by simp)
  unfold aG at hz
  split at hz
  ·omega
  ·rename_i h0
   have hg0:=ci (show cz (r.guards.map (gE p.messages.length))=0 by omega) _ (List.mem_map.2 ⟨g,hg,rfl⟩)
   have hg1:=ci hg0
   have a:=hg1 (cL g.message p.messages.length) (by simp)
   have b:=hg1 (eK g.coef) (by simp)
   have c:=hg1 (je g.bound) (by simp)
   unfold cL at a
   unfold eK at b
   unfold je at c
   refine⟨?_,?_,?_⟩
   ·split at a<;>omega
   ·split at b<;>omega
   ·split at c
    ·assumption
    ·omega
 ·have:r.guards.length=0:=by unfold il at h3;omega
  rw[List.length_eq_zero_iff] at this
  rw[this] at hg
  cases hg
theorem Cc {acc:List eg} {g x:eg} (h:x∈im acc g):x∈acc\/x=g:=by
 unfold im at h
 split at h
 ·exact .inl h
 ·rcases List.mem_append.1 h with h|h
  ·exact .inl h
  ·exact .inr (List.mem_singleton.1 h)
theorem zM {gs:List eg} {x:eg}:∀{acc:List eg},x∈gs.foldl im acc->x∈acc\/x∈gs:=by
 induction gs with
 |nil=>intro acc h;exact .inl h
 |cons g gs ih=>
  intro acc h
  rw[List.foldl_cons] at h
  rcases ih h with h|h
  ·rcases Cc h with h|h
   ·exact .inl h
   ·exact .inr (h▸List.mem_cons_self)
  ·exact .inr (List.mem_cons_of_mem _ h)
theorem Cd {rs:List bp} {g:eg} (h:g∈aA rs):∃i,i<rs.length/\g∈(rs.getD i ar).guards:=by
 unfold aA at h
 rcases zM h with h|h
 ·cases h
 ·obtain⟨r,hr,hg⟩:=List.mem_flatMap.1 h
  obtain⟨i,hi,rfl⟩:=List.getElem_of_mem hr
  exact⟨i,hi,by rw[ay ar hi];exact hg⟩
theorem ti {p:au} (h:aB p=0) {g:eg} (hg:g∈aA p.rules):(0<=g.message/\g.message<p.messages.length)/\(1<=g.coef/\g.coef<=100)/\c6 g.bound:=by
 obtain⟨i,hi,hm⟩:=Cd hg
 exact jJ ((aK h).rul i hi) hm
def D5 (r:Rw) (B:Int):Prop:=xc r.1 B/\-B<=r.2/\r.2<=B
theorem G8 {l:g7} (h:c6 l):D5 (lP l) 1000:=⟨eM (k8 h) (by omega),by have:=h.1;unfold bO at this;show -1000<=l.c/\l.c<=1000;omega⟩
theorem tj {kind k:Int} {n:Nat} {l:g7} (h:c6 l) (hk:k=1\/k=-1):D5 (fh kind n k l) 1000:=by
 refine⟨eM (fZ (fZ rQ (G7 kind n) (K:=1) (by omega)) (k8 h) (K:=1) (by omega)) (by omega),?_⟩
 have:=h.1;unfold bO at this
 show -1000<=-k*l.c/\-k*l.c<=1000
 rcases hk with rfl|rfl
 ·rw[Int.neg_mul,Int.one_mul];omega
 ·rw[Int.neg_neg,Int.one_mul];omega
theorem G9 {p:au} {g:eg} {j:Nat} (h:(1<=g.coef/\g.coef<=100)/\c6 g.bound):D5 (nC p g j) 1000:=by
 have h1:=fZ (fZ rQ (oH p.rules 5 g.message j 0) (K:=100) (k:=g.coef) (by omega)) (oH p.rules 6 g.message j 0) (K:=100) (k:=g.coef) (by omega)
 refine⟨?_,?_⟩
 ·unfold nC
  dsimp only
  split
  ·exact eM (fZ (Fb h1 (K:=100) (by omega) (by omega)) (k8 h.2) (K:=1) (by omega)) (by omega)
  ·exact eM (fZ h1 (k8 h.2) (K:=1) (by omega)) (by omega)
 ·have:=h.2.1;unfold bO at this
  show -1000<=-g.bound.c/\-g.bound.c<=1000
  omega
theorem Ce (p:au) (start fire:Int) (x j:Nat):D5 (qS p start fire x j) 1000:=
 ⟨eM (fZ rQ (th p.rules start fire x (j+1) 0) (K:=1) (by omega)) (by omega),by show(-1000:Int)<=0/\(0:Int)<=1000;omega⟩
theorem Cf (p:au) (seg:Nat):∀(l:List Int) (c:Co) (B:Int),xc c B->xc (l.foldl (fun c x=>ba c 1 (cW p.rules 3 5 x (seg+1) 0)) c) (B+2*l.length)
 |[],c,B,h=>by simpa using h
 |x::l,c,B,h=>by
  rw[List.foldl_cons]
  have:=Cf p seg l _ _ (fZ (k:=1) h (th p.rules 3 5 x (seg+1) 0) (K:=1) (by omega))
  refine eM this ?_
  simp only[List.length_cons]
  omega
theorem Cg {p:au} {seg:Nat} {states:List Int} {least:Int} (h:states.length<=6) (hl:0<=least/\least<=3):D5 (qT p seg states least) 1000:=by
 refine⟨eM (Cf p seg states zC 0 rQ) (by omega),?_⟩
 show -1000<=-least/\-least<=1000
 omega
theorem G' {p:au} {seg:Nat} {r:bp} {ch:Int} (hg:∀g∈r.guards,(1<=g.coef/\g.coef<=100)/\c6 g.bound) (hc:0<=ch/\ch<=r.guards.length):D5 (ot p seg r ch) 1000:=by
 unfold ot
 split
 ·exact⟨eM (fZ rQ (th p.rules 3 5 r.src (seg+1) 0) (K:=1) (by omega)) (by omega),by dsimp only;omega⟩
 ·have hm:=hg _ (aP (l:=r.guards) (k:=(ch-1).toNat) aE (by omega))
  generalize r.guards.getD (ch-1).toNat aE=g at hm
  have h1:=fZ rQ (oH p.rules 5 g.message (seg+1) 0) (K:=100) (k:=-g.coef) (by omega)
  refine⟨?_,?_⟩
  ·dsimp only
   split
   ·exact eM (fZ (fZ h1 (oH p.rules 6 g.message (seg+1) 0) (K:=100) (k:=-g.coef) (by omega)) (k8 hm.2) (K:=1) (by omega)) (by omega)
   ·exact eM (fZ h1 (k8 hm.2) (K:=1) (by omega)) (by omega)
  ·have:=hm.2.1;unfold bO at this
   dsimp only
   omega
theorem Ch {p:au} (h:aB p=0):∀l∈fi p,c6 l:=by
 intro l hl
 have hr:=(aK h).res
 have f:∀a b c d:Int,-100<=a/\a<=100->-100<=b/\b<=100->-100<=c/\c<=100->-100<=d/\d<=100->c6 ⟨a,b,c,d⟩:=fun a b c d h1 h2 h3 h4=>⟨h1,h2,h3,h4⟩
 unfold fi at hl
 rcases List.mem_append.1 hl with hl|hl
 ·rcases List.mem_append.1 hl with hl|hl
  ·simp only[List.mem_cons,List.not_mem_nil,or_false] at hl
   rcases hl with rfl|rfl|rfl<;>exact f _ _ _ _ (by omega) (by omega) (by omega) (by omega)
  ·split at hl
   ·simp only[List.mem_cons,List.not_mem_nil,or_false] at hl
    rcases hl with rfl|rfl<;>exact f _ _ _ _ (by omega) (by omega) (by omega) (by omega)
   ·simp at hl
 ·obtain⟨i,hi,e⟩:=List.getElem_of_mem hl
  have:=hr i hi
  rwa [ay dc hi,e] at this
theorem Ha {p:au}:∀r∈jh p,D5 r 1000:=by
 intro r hr
 have f:∀a b c d:Int,-100<=a/\a<=100->-100<=b/\b<=100->-100<=c/\c<=100->-100<=d/\d<=100->c6 ⟨a,b,c,d⟩:=fun a b c d h1 h2 h3 h4=>⟨h1,h2,h3,h4⟩
 unfold jh at hr
 rcases List.mem_append.1 hr with hr|hr
 ·simp only[List.mem_cons,List.not_mem_nil,or_false] at hr
  rcases hr with rfl|rfl
  ·exact tj (f _ _ _ _ (by omega) (by omega) (by omega) (by omega)) (.inl rfl)
  ·exact tj (f _ _ _ _ (by omega) (by omega) (by omega) (by omega)) (.inr rfl)
 ·split at hr
  ·simp only[List.mem_cons,List.not_mem_nil,or_false] at hr
   rcases hr with rfl|rfl
   ·exact tj (f _ _ _ _ (by omega) (by omega) (by omega) (by omega)) (.inl rfl)
   ·exact tj (f _ _ _ _ (by omega) (by omega) (by omega) (by omega)) (.inr rfl)
  ·simp at hr
theorem Hb {p:au} (h:aB p=0) {sch:List Int} (hs:cM (aA p.rules).length sch) {j:Nat} (hj:j<=sch.length):∀r∈jX p sch j,D5 r 1000:=by
 intro r hr
 unfold jX at hr
 rcases List.mem_append.1 hr with hr|hr
 ·rcases List.mem_append.1 hr with hr|hr
  ·split at hr
   ·rename_i h0
    simp only[List.mem_cons,List.not_mem_nil,or_false] at hr
    subst hr
    have hi:=(hs (j-1) (by omega)).1
    exact G9 (ti h (aP (l:=aA p.rules) aE (by omega))).2
   ·simp at hr
  ·obtain⟨x,_,rfl⟩:=List.mem_map.1 hr
   exact Ce p 3 5 x j
 ·split at hr
  ·obtain⟨x,_,rfl⟩:=List.mem_map.1 hr
   exact Ce p 4 6 x j
  ·simp at hr
theorem Ci (p:au) (q:aV):(w7 p q).length<=p.states.length:=by
 unfold w7
 have:=List.length_filter_le (fun x=>decide (x∉q.goal)) ((List.range p.states.length).map fun x:Nat=>(x:Int))
 simp only[List.length_map,List.length_range] at this
 omega
theorem Hc {p:au} {q:aV} (h:aZ p q=0) (seg number:Nat):∀r∈lQ p q seg number,D5 r 1000:=by
 intro r hr
 have v:=aQ h
 have w:=aK v.vld
 unfold lQ at hr
 split at hr
 ·rename_i hk
  obtain⟨c,hc,rfl⟩:=List.mem_map.1 hr
  obtain⟨i,hi,e⟩:=List.getElem_of_mem hc
  have hp:=k0 v hk hi
  rw[ay bP hi,e] at hp
  have:=bq hp.1
  have:=w.len
  exact Cg (by omega) (by omega)
 ·rcases List.mem_cons.1 hr with rfl|hr
  ·have:=Ci p q
   have:=w.len
   exact Cg (by omega) (by omega)
  ·obtain⟨i,hi,rfl⟩:=List.mem_map.1 hr
   have hi:=List.mem_range.1 hi
   refine G' (fun g hg=>(jJ (w.rul i hi) hg).2) ?_
   rw[oG hi]
   have:=w6 p.rules number i
   omega
theorem Hd {p:au} {q:aV} (h:aZ p q=0) {sch:List Int} (hs:cM (aA p.rules).length sch) (number:Int):∀r∈ip p q sch number,D5 r 1000:=by
 intro r hr
 have hv:=(aQ h).vld
 unfold ip at hr
 rcases List.mem_append.1 hr with hr|hr
 ·rcases List.mem_append.1 hr with hr|hr
  ·rcases List.mem_append.1 hr with hr|hr
   ·obtain⟨l,hl,rfl⟩:=List.mem_map.1 hr
    exact G8 (Ch hv l hl)
   ·exact Ha r hr
  ·obtain⟨j,hj,hr⟩:=List.mem_flatMap.1 hr
   have:=List.mem_range.1 hj
   exact Hb hv hs (by omega) r hr
 ·split at hr
  ·exact Hc h _ _ r hr
  ·simp at hr
theorem mG {α β:Type} (f:α->List β) (B:Nat):∀l:List α,(∀a∈l,(f a).length<=B)->(l.flatMap f).length<=B*l.length
 |[],_=>by simp
 |a::l,h=>by
  have ih:=mG f B l fun x hx=>h x (List.mem_cons_of_mem _ hx)
  have:=h a List.mem_cons_self
  rw[List.flatMap_cons,List.length_append,List.length_cons,Nat.mul_add]
  omega
theorem Cj {p:au} {q:aV} (h:aZ p q=0) {sch:List Int} (hs:cM (aA p.rules).length sch) (number:Int):(ip p q sch number).length<=100:=by
 have v:=aQ h
 have w:=aK v.vld
 have l1:=w.len
 have l2:=w.thr
 have l3:=cH hs
 have a:(fi p).length<=9:=by unfold fi;rw[List.length_append,List.length_append];split<;>simp<;>omega
 have b:(jh p).length<=4:=by unfold jh;rw[List.length_append];split<;>simp
 have c:((List.range (sch.length+1)).flatMap (jX p sch)).length<=13*(sch.length+1):=by
  have:=mG (jX p sch) 13 (List.range (sch.length+1)) fun j _=>by
   unfold jX
   rw[List.length_append,List.length_append]
   split<;>split<;>simp<;>omega
  simpa using this
 have d:(if 0<=number then lQ p q sch.length number.toNat else[]).length<=9:=by
  split
  ·unfold lQ
   split
   ·rename_i hk;have:=(v.bad hk).1;simp;omega
   ·simp;omega
  ·simp
 unfold ip
 rw[List.length_append,List.length_append,List.length_append,List.length_map]
 omega
def lT (p:au) (q:aV) (sch:List Int) (number:Int):iq:=⟨((ao p q sch).length:Int),dq p q sch number⟩
theorem nE {p:au} {q:aV} {sch:List Int} {number:Int} {j:Nat} (hj:j<(dq p q sch number).length):∃r∈ip p q sch number,(dq p q sch number).getD j bz=aN (ao p q sch) r:=by
 have hj':j<(ip p q sch number).length:=by simpa[dq] using hj
 refine⟨(ip p q sch number)[j],List.getElem_mem _,?_⟩
 rw[ay bz hj]
 simp[dq]
theorem tk {p:au} {q:aV} (h:aZ p q=0) {sch:List Int} (hs:cM (aA p.rules).length sch) (number:Int):iV (lT p q sch number)=0:=by
 refine tf ?_ (fun j hj=>?_) ?_ fun j hj=>?_
 ·have:=dM h hs
  show 0<=((ao p q sch).length:Int)/\((ao p q sch).length:Int)<=96
  omega
 ·obtain⟨r,_,e⟩:=nE hj
  show(((dq p q sch number).getD j bz).coef.length:Int)=((ao p q sch).length:Int)
  rw[e];simp[aN]
 ·have:=Cj h hs number
  show(dq p q sch number).length<=192
  unfold dq
  rw[List.length_map]
  omega
 ·obtain⟨r,hr,e⟩:=nE hj
  show ou ((dq p q sch number).getD j bz)
  rw[e]
  obtain⟨h1,h2⟩:=Hd h hs number r hr
  refine⟨fun i hi=>?_,?_⟩
  ·have hi':i<(ao p q sch).length:=by simpa[aN] using hi
   have:(aN (ao p q sch) r).coef.getD i 0=r.1 ((ao p q sch).getD i cm):=b9 r.1 hi'
   rw[this]
   have:=h1 ((ao p q sch).getD i cm)
   unfold nD;omega
  ·show nD r.2
   unfold nD;omega
def eh (c a:Co):List Vb->Int
 |[]=>0
 |v::l=>c v*a v+eh c a l
theorem jK (c a:Co) (l m:List Vb):eh c a (l++m)=eh c a l+eh c a m:=by
 induction l with
 |nil=>simp[eh]
 |cons v l ih=>rw[List.cons_append,eh,eh,ih];omega
theorem Ck (c a:Co) (vars:List Vb):∀k,k<=vars.length->lR (vars.map c) (vars.map a) k=eh c a (vars.take k)
 |0,_=>by simp[lR,eh]
 |k+1,h=>by
  rw[lR,Ck c a vars k (by omega),b9 c (by omega),b9 a (by omega),bl cm (by omega),jK,eh,eh]
  omega
theorem Cl (r:Rw) (a:Co) (vars:List Vb):qc (aN vars r) (vars.map a)=r.2+eh r.1 a vars:=by
 unfold qc aN
 dsimp only
 rw[List.length_map,Ck r.1 a vars _ (Nat.le_refl _),List.take_length]
def gr (vars:List Vb) (x:List Int):Co:=fun v=>x.getD (vars.idxOf v) 0
theorem He {vars:List Vb} (hn:vars.Nodup) {x:List Int} (hx:x.length=vars.length):vars.map (gr vars x)=x:=by
 apply List.ext_getElem
 ·simp[hx]
 ·intro i h1 h2
  have hi:i<vars.length:=by simpa using h1
  rw[List.getElem_map]
  unfold gr
  rw[hn.idxOf_getElem i hi,ay 0 h2]
theorem fF {c a:Co} {l:List Vb} (h:∀v∈l,c v=0):eh c a l=0:=by
 induction l with
 |nil=>rfl
 |cons v l ih=>rw[eh,h v List.mem_cons_self,ih fun x hx=>h x (List.mem_cons_of_mem _ hx)];simp
theorem Hf {p:au} {q:aV} (h:aZ p q=0) {sch:List Int} (hs:cM (aA p.rules).length sch) {number:Int} {a:Co}:vj (lT p q sch number) ((ao p q sch).map a)↔(∀v∈ao p q sch,0<=a v/\a v<=1048576)/\∀r∈ip p q sch number,0<=r.2+eh r.1 a (ao p q sch):=by
 constructor
 ·rintro⟨_,_,h3,h4⟩
  refine⟨fun v hv=>?_,fun r hr=>?_⟩
  ·obtain⟨i,hi,rfl⟩:=List.getElem_of_mem hv
   have:=h3 i (by simpa using hi)
   rwa [b9 a hi,ay cm hi] at this
  ·obtain⟨j,hj,rfl⟩:=List.getElem_of_mem hr
   have hj':j<(dq p q sch number).length:=by simpa[dq] using hj
   have:=h4 j hj'
   have e:(lT p q sch number).rows.getD j bz=aN (ao p q sch) (ip p q sch number)[j]:=by
    show(dq p q sch number).getD j bz=_
    rw[ay bz hj']
    simp[dq]
   rw[e,Cl] at this
   exact this
 ·rintro⟨h1,h2⟩
  refine⟨tk h hs number,?_,fun j hj=>?_,fun j hj=>?_⟩
  ·show(((ao p q sch).map a).length:Int)=((ao p q sch).length:Int)
   simp
  ·have hj':j<(ao p q sch).length:=by simpa using hj
   rw[b9 a hj']
   exact h1 _ (aP _ hj')
  ·obtain⟨r,hr,e⟩:=nE hj
   show 0<=qc ((dq p q sch number).getD j bz) _
   rw[e,Cl]
   exact h2 r hr
end Go.Proofs.YtnjggjhkfncnlaaGreatDoor
