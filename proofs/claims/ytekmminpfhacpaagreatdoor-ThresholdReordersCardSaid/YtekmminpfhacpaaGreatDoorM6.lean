import Derived.Test.YtekmminpfhacpaaGreatDoorM5
import Derived.Test.YtekmminpfhacpaaGreatDoorM4
set_option linter.unusedVariables false
set_option linter.unusedSimpArgs false
namespace Go.Proofs.YtekmminpfhacpaaGreatDoor
set_option maxRecDepth 100000
set_option maxHeartbeats 8000000
def MM (q:aG) (c:az):Prop:=∀j,j<q.bad.length->(q.bad.getD j br).least<=ki (q.bad.getD j br).states (c.states.take c.correct.toNat)
def yR (p:an) (q:aG) (c:az):Prop:=MM q c/\(q.adjacent.length=0\/KB p c q.adjacent)
noncomputable instance decBad (p:an) (q:aG) (c:az):Decidable (yR p q c):=Classical.propDecidable _
theorem ED (S L:List Int):ki (S.take 0) L=0:=by
 simp[ki]
theorem KC {S L:List Int} {i:Nat} (hi:pM S) (h:i<S.length):ki (S.take (i+1)) L=ki (S.take i) L+L.count (S.getD i 0):=by
 have e:S.getD i 0=S[i]:=by rw[gD,gL h];rfl
 have:=xb (yQ hi h) L
 rw[List.take_succ_eq_append_getElem h,<-e]
 exact this
theorem NR (p:an) (q:aG) (c:az) (hp:¬dX p) (hq:¬mK q) (hw:bA c=false) (hpl:Ex p c) (hok:(∀j,j<q.bad.length->lV (q.bad.getD j br).states p.states.length/\pM (q.bad.getD j br).states)/\(q.adjacent.length=0\/q.adjacent.length=2)):ab Tryz.prog 88 [.agg (aR p), .agg (df q), .agg (aW c)] (fun u=>u= .bool (decide (yR p q c))):=by
 have hle:=bL hp
 have hlq:=kg hq
 have hc:=bE hw
 have hL:(c.states.take c.correct.toNat).length<=100:=by rw[List.length_take];omega
 refine ab.intro ae ag Tryz.func88 rfl (by decide) ?_;(conv=>whnf)
 refine al rfl ?_
 conv=>whnf
 refine al rfl ?_
 conv=>whnf
 refine al rfl ?_
 conv=>whnf
 (refine oP (HW p c hp hw hpl) ?_;conv=>whnf)
 have hcl:=EC p.states.length (c.states.take c.correct.toNat)
 refine aQ.loopF ae ag (fun k:Nat=>k<=q.bad.length/\∀j,j<k->(q.bad.getD j br).least<=ki (q.bad.getD j br).states (c.states.take c.correct.toNat)) (fun k=>[(19, .int .i64 (k:Int))]) (fun _=>[]) (fun k=>q.bad.length-k) 0 ⟨by omega,fun j hj=>by omega⟩ ?_;conv=>whnf
 refine⟨sI,?_⟩
 rintro k ⟨hk,ha⟩
 conv=>whnf
 refine ah ?_ ?_<;>(intro h1;conv=>whnf)
 ·have hlen:=xa hq k (by omega)
  obtain⟨hg1,hg2⟩:=hok.1 k (by omega)
  have next:(q.bad.getD k br).least<=ki (q.bad.getD k br).states (c.states.take c.correct.toNat)->∀j,j<k+1->(q.bad.getD j br).least<=ki (q.bad.getD j br).states (c.states.take c.correct.toNat):=fun h j hj=>by
   by_cases e:j=k
   ·subst e;exact h
   ·exact ha j (by omega)
  have nok:¬(q.bad.getD k br).least<=ki (q.bad.getD k br).states (c.states.take c.correct.toNat)->¬yR p q c:=fun h hb=>h (hb.1 k (by omega))
  refine nI ?_
  rw[tN]
  generalize q.bad.getD k br=g at hlen hg1 hg2 next nok
  conv=>whnf
  have h00:=ED g.states (c.states.take c.correct.toNat)
  refine aQ.loopF ae ag (fun i:Nat=>i<=g.states.length) (fun i=>[(26, .int .i64 (i:Int)),(10, .int .i64 (ki (g.states.take i) (c.states.take c.correct.toNat):Int))]) (fun _=>[(9, .box 189 [.sl 0 ao g.states, .int .i64 g.least])]) (fun i=>g.states.length-i) 0 (Nat.zero_le _) ?_;conv=>whnf
  refine⟨sI,?_⟩
  rintro i hi
  conv=>whnf
  refine ah ?_ ?_<;>(intro h2;conv=>whnf)
  ·have h3:=hg1 i (by omega)
   have h4:=KC (L:=c.states.take c.correct.toNat) hg2 (i:=i) (by omega)
   have h5:=KA (g.states.take i) (c.states.take c.correct.toNat)
   have h6:(c.states.take c.correct.toNat).count (g.states.getD i 0)<=(c.states.take c.correct.toNat).length:=List.count_le_length
   refine nI ?_
   rw[tN]
   conv=>whnf
   refine nI ?_
   rw[HV _ (by omega),show((g.states.getD i 0).toNat:Int)=g.states.getD i 0 by omega]
   conv=>whnf
   repeat' ((first|refine nI ?_|refine aI ?_|refine tI ?_|refine fI ?_|fail);conv=>whnf)
   exact⟨i+1,sI,by omega,by dsimp only;omega⟩
  ·obtain rfl:i=g.states.length:=by omega
   rw[List.take_length]
   refine ah ?_ ?_<;>(intro h3;conv=>whnf)
   ·exact⟨au (nok (by omega)),rfl⟩
   ·repeat' ((first|refine nI ?_|refine aI ?_|refine tI ?_|refine fI ?_|fail);conv=>whnf)
    exact⟨k+1,sI,⟨by omega,next (by omega)⟩,by dsimp only;omega⟩
 have hcok:MM q c:=fun j hj=>ha j (by omega)
 by_cases h2:q.adjacent.length=0
 ·repeat' ((first|refine nI ?_|refine aI ?_|refine tI ?_|refine fI ?_|fail);conv=>whnf)
  exact⟨aH ⟨hcok, .inl h2⟩,rfl⟩
 ·repeat' ((first|refine nI ?_|refine aI ?_|refine tI ?_|refine fI ?_|fail);conv=>whnf)
  refine dC (Cf p c q.adjacent hw (by omega)) (fun _=>?_) (fun _=>?_)<;>(conv=>whnf)
  ·rename_i h3;exact⟨aH ⟨hcok, .inr h3⟩,rfl⟩
  ·rename_i h3;exact⟨au (fun h=>h.2.elim h2 h3),rfl⟩
def cntS:Sh:=eJ (.int .nil)
def cntOf:eV cntS->JK
 |(a,b,_)=>⟨iz a,b⟩
section
variable {S:ai}
theorem cv_cnt (y:eV cntS):ur S (bp cntS y) (gR (cntOf y)):=by
 obtain⟨a,b,⟨⟩⟩:=y
 exact⟨Cv.ints a,Cv.refl _ _,trivial⟩
theorem cv_cnts (l:List (eV cntS)):Cv S (.sl (gh cntS) (bp cntS) l) (.sl br gR (l.map cntOf)):=
 Cv.sl (d:=gh cntS) (enc:=bp cntS) br gR cntOf fun y _=>⟨cv_cnt y,rfl⟩
end
end Go.Proofs.YtekmminpfhacpaaGreatDoor
namespace Go.Proofs.YtekmminpfhacpaaGreatDoor
set_option maxRecDepth 100000
set_option maxHeartbeats 8000000
def NS (p:an) (c:az):List AV:=[.sl 0 ao ((List.range c.states.length).map (sq p.topology c.shape c.states.length)), .sl 0 ao ((List.range c.states.length).map (sr p.topology c.shape c.states.length)), .sl 0 ao ((List.range c.states.length).map (vR p.topology c.shape c.states.length))]
def pO (p:an) (s:aJ) (c:az):List AV:=aR p++(cq s++(aW c++NS p c))
theorem EE (p:an) (s:aJ) (c:az) (hw:bA c=false):ab Tryz.prog 152 [.agg (aR p), .agg (cq s), .agg (aW c)] (fun u=>u= .agg (pO p s c)):=by
 have hc:=bE hw
 refine ab.intro ae ag Tryz.func152 rfl (by decide) ?_;(conv=>whnf)
 refine al rfl ?_
 conv=>whnf
 refine al rfl ?_
 conv=>whnf
 refine al rfl ?_
 conv=>whnf
 (refine oP (JE p.topology c.shape c.states.length (by omega) (by omega)) ?_;conv=>whnf)
 exact⟨rfl,rfl⟩
def uC (p:an) (s:aJ) (c:az) (m:Int):Bool->Int
 |false=>c.sent.getD m.toNat 0+(if p.fault=1\/p.fault=2 then c.faulty.getD m.toNat 0 else if p.fault=3 then s.f else 0)
 |true=>c.sent.getD m.toNat 0+(if p.fault=1 then c.faulty.getD m.toNat 0 else 0)
theorem KD {p:an} {s:aJ} {c:az} {m:Int} (f:Bool) (h1:lV c.sent 1048577) (h2:lV c.faulty 1048577) (hm:0<=m/\m<c.sent.length/\m<c.faulty.length) (hs:0<=s.f/\s.f<=1048576):0<=uC p s c m f/\uC p s c m f<=2097152:=by
 have a1:=h1 m.toNat (by omega)
 have a2:=h2 m.toNat (by omega)
 cases f<;>unfold uC<;>dsimp only<;>(repeat' split)<;>omega
theorem EF (p:an) (s:aJ) (c:az) (m:Int) (f:Bool) (h1:lV c.sent 1048577) (h2:lV c.faulty 1048577) (hm:0<=m/\m<c.sent.length/\m<c.faulty.length) (hs:0<=s.f/\s.f<=1048576):ab Tryz.prog 279 [.agg (pO p s c), .int .i64 m, .bool f] (fun u=>u= .int .i64 (uC p s c m f)):=by
 have a1:=h1 m.toNat (by omega)
 have a2:=h2 m.toNat (by omega)
 cases f
 all_goals
  refine ab.intro ae ag Tryz.func279 rfl (by decide) ?_;(conv=>whnf)
  refine al rfl ?_
  conv=>whnf
  refine nI ?_
  conv=>whnf
  repeat' ((first|refine nI ?_|refine aI ?_|refine fb trivial (by omega) ?_|refine fv trivial (by omega) ?_|refine dI ?_|refine dR ?_|refine dP ?_|refine al rfl ?_|refine pI _ rfl ?_|refine aw _ rfl ?_|refine tI ?_|refine fI ?_|refine ah (fun _=>?_) (fun _=>?_))<;>conv=>whnf)
  all_goals
   refine⟨ac ?_,rfl⟩
   unfold uC
   dsimp only
   (repeat' split)<;>omega
theorem nu {i n:Int} (h:cM i n=0):0<=i/\i<n:=by
 unfold cM at h;split at h<;>omega
theorem lX {m v:Int} (h:eo m v=0):-1<=v/\v<m:=by
 unfold eo at h;split at h<;>omega
theorem MN {m:Int} {g:ez} (h:gE m g=0):(0<=g.message/\g.message<m)/\(1<=g.coef/\g.coef<=100)/\eh g.bound:=by
 have hz:=bB h
 have h1:=hz (cM g.message m) (by simp)
 have h2:=hz (eI g.coef) (by simp)
 have h3:=hz (jz g.bound) (by simp)
 refine⟨nu h1,?_,?_⟩
 ·unfold eI at h2;split at h2<;>omega
 ·unfold jz at h3;split at h3
  ·assumption
  ·omega
theorem yS {m:Int} {l:List ez} (h:aK m l=0):∀j,j<l.length->(0<=(l.getD j aC).message/\(l.getD j aC).message<m)/\(1<=(l.getD j aC).coef/\(l.getD j aC).coef<=100)/\eh (l.getD j aC).bound:=by
 intro j hj
 unfold aK at h
 by_cases h1:ci (l.map (gE m))=0
 ·exact MN (bB h1 _ (List.mem_map.2 ⟨_,by rw[gD,gL hj];exact List.getElem_mem _,rfl⟩))
 ·rw[if_pos h1] at h;omega
structure gI (p:an) (r:bo):Prop where
 fit:fR r.kind p.topology
 sur:¬iQ r p.topology
 src:0<=r.src/\r.src<p.states.length
 dst:0<=r.dst/\r.dst<p.states.length
 kin:cW p r=0
theorem EG {p:an} {i:Nat} {r:bo} (h:b9 p i r=0):gI p r:=by
 unfold b9 at h
 by_cases h1:¬cj r.name\/gQ p.rules i r
 ·rw[if_pos h1] at h;omega
 rw[if_neg h1] at h
 by_cases h2:¬fR r.kind p.topology\/iQ r p.topology
 ·rw[if_pos h2] at h;omega
 rw[if_neg h2] at h
 have hz:=bB h
 refine⟨?_,fun hs=>h2 (.inr hs),nu (hz _ (by simp)),nu (hz _ (by simp)),hz _ (by simp)⟩
 by_cases hf:fR r.kind p.topology
 ·exact hf
 ·exact absurd (.inl hf) h2
theorem cQ {p:an} (h:aA p=0) {i:Nat} (hi:i<p.rules.length):gI p (p.rules.getD i ap):=by
 unfold aA at h
 have ht:w5 p=0:=by
  (repeat' split at h)<;>first|exact h|omega
 have hz:=bB ht (iv p) (by simp)
 refine EG (i:=i) (bB hz _ (List.mem_map.2 ⟨i,List.mem_range.2 hi,rfl⟩))
structure dx (p:an) (s:aJ) (c:az):Prop where
 big:¬dX p
 wide:bA c=false
 val:aA p=0
 siz:JI s
 sz:(1<=s.n/\s.n<=8)/\(0<=s.f/\s.f<=s.n)
 adm:rh p s
 vc:VC p s c
theorem dx.of {p:an} {s:aJ} {c:az} (hp:¬dX p) (hw:bA c=false) (h:cF p s c=0):dx p s c:=by
 unfold cF at h
 by_cases h1:cr p s≠0
 ·rw[if_pos h1] at h;omega
 rw[if_neg h1] at h
 have h2:=iy (p:=p) (s:=s) (by omega)
 refine⟨hp,hw,h2.1,by unfold JI;omega,by omega,h2.2.1,?_⟩
 unfold pB at h
 by_cases h3:VC p s c
 ·exact h3
 ·rw[if_neg h3] at h;omega
theorem dx.sent {p:an} {s:aJ} {c:az} (h:dx p s c):lV c.sent 1048577/\lV c.faulty 1048577:=by
 refine⟨h.vc.sen,fun j hj=>?_⟩
 have:=h.vc.fau j hj
 have e:yM p<=1048576:=by unfold yM;split<;>omega
 omega
def nv (p:an) (s:aJ) (c:az) (f:Bool) (g:ez):Prop:=fX g.bound s<=g.coef*uC p s c g.message f
def nw (p:an) (s:aJ) (c:az) (r:bo) (f:Bool):Prop:=∀j,j<r.guards.length->nv p s c f (r.guards.getD j aC)
noncomputable instance decGrd (p:an) (s:aJ) (c:az) (r:bo) (f:Bool):Decidable (nw p s c r f):=Classical.propDecidable _
theorem MO {a b:Int} (ha:1<=a/\a<=100) (hb:0<=b/\b<=2097152):0<=a*b/\a*b<=209715200:=by
 have h1:0<=a*b:=Int.mul_nonneg (by omega) hb.1
 have h2:a*b<=100*2097152:=Int.mul_le_mul (by omega) hb.2 hb.1 (by omega)
 omega
theorem HY (p:an) (s:aJ) (c:az) (r:bo) (f:Bool) (h:dx p s c) (hr:¬oM r) (hg:aK p.messages.length r.guards=0):ab Tryz.prog 243 [.agg (pO p s c), .agg (eg r), .bool f] (fun u=>u= .bool (decide (nw p s c r f))):=by
 have hle:=bL h.big
 have hbr:=i6 hr
 have hgs:=yS hg
 have hsn:=h.vc.snl
 have hfa:=h.vc.fal
 have hz:=h.siz
 unfold JI at hz
 refine ab.intro ae ag Tryz.func243 rfl (by decide) ?_;(conv=>whnf)
 refine al rfl ?_
 conv=>whnf
 refine al rfl ?_
 conv=>whnf
 refine aQ.loopF ae ag (fun k:Nat=>k<=r.guards.length/\∀j,j<k->nv p s c f (r.guards.getD j aC)) (fun k=>[(14, .int .i64 (k:Int))]) (fun _=>[]) (fun k=>r.guards.length-k) 0 ⟨by omega,fun j hj=>by omega⟩ ?_;conv=>whnf
 refine⟨sI,?_⟩
 rintro k ⟨hk,ha⟩
 conv=>whnf
 refine ah ?_ ?_<;>(intro h1;conv=>whnf)
 ·obtain⟨g1,g2,g3⟩:=hgs k (by omega)
  have nok:¬nv p s c f (r.guards.getD k aC)->¬nw p s c r f:=fun hn hb=>hn (hb k (by omega))
  have next:nv p s c f (r.guards.getD k aC)->∀j,j<k+1->nv p s c f (r.guards.getD j aC):=fun hn j hj=>by
   by_cases e:j=k
   ·subst e;exact hn
   ·exact ha j (by omega)
  refine nI ?_
  rw[tN]
  generalize r.guards.getD k aC=g at g1 g2 g3 nok next
  have hb:=KD (p:=p) (s:=s) (c:=c) (m:=g.message) f h.sent.1 h.sent.2 (by omega) (by omega)
  have hm:=MO g2 hb
  conv=>whnf
  (refine oP (oU g.bound s g3 h.siz) ?_;conv=>whnf)
  refine dI ?_
  conv=>whnf
  (refine oC (EF p s c g.message f h.sent.1 h.sent.2 (by omega) (by omega)) ?_;conv=>whnf)
  repeat' ((first|refine nI ?_|refine aI ?_|refine tI ?_|refine fI ?_|fail);conv=>whnf)
  refine ah ?_ ?_<;>(intro h2;conv=>whnf)
  ·exact⟨au (nok (by unfold nv;omega)),rfl⟩
  ·repeat' ((first|refine nI ?_|refine aI ?_|refine tI ?_|refine fI ?_|fail);conv=>whnf)
   exact⟨k+1,sI,⟨by omega,next (by unfold nv;omega)⟩,by dsimp only;omega⟩
 ·exact⟨aH (fun j hj=>ha j (by omega)),rfl⟩
def G6 (c:az) (l:List Int) (i:Int) (k:Nat):Prop:=l.length=0\/∃j,j<k/\(j:Int)≠i/\c.states.getD j 0∈l
def EH (c:az) (l:List Int) (i:Int) (k:Nat):Prop:=l.length=0\/∀j,j<k->(j:Int)≠i->c.states.getD j 0∈l
def HZ (c:az) (r:bo) (i:Int):Prop:=G6 c r.some_ i c.states.length/\EH c r.forall_ i c.states.length
noncomputable instance decOth (c:az) (r:bo) (i:Int):Decidable (HZ c r i):=Classical.propDecidable _
section
variable {c:az} {l:List Int} {i:Int} {k:Nat}
theorem EI:G6 c l i 0↔l.length=0:=⟨fun h=>h.elim id (fun⟨j,hj,_⟩=>by omega), .inl⟩
theorem EJ:EH c l i 0:=.inr fun j hj=>by omega
theorem EK (h:(k:Int)=i):G6 c l i (k+1)↔G6 c l i k:=
 ⟨fun h1=>h1.elim .inl (fun⟨j,hj,hn,hm⟩=>.inr ⟨j,by omega,hn,hm⟩),fun h1=>h1.elim .inl (fun⟨j,hj,hn,hm⟩=>.inr ⟨j,by omega,hn,hm⟩)⟩
theorem EL (h:(k:Int)=i):EH c l i (k+1)↔EH c l i k:=
 ⟨fun h1=>h1.elim .inl (fun h2=>.inr fun j hj hn=>h2 j (by omega) hn),fun h1=>h1.elim .inl (fun h2=>.inr fun j hj hn=>h2 j (by omega) hn)⟩
theorem Am (h:G6 c l i k):G6 c l i (k+1):=h.elim .inl (fun⟨j,hj,hn,hm⟩=>.inr ⟨j,by omega,hn,hm⟩)
theorem An (h:(k:Int)≠i) (hm:c.states.getD k 0∈l):G6 c l i (k+1):=.inr ⟨k,by omega,h,hm⟩
theorem EM (h:¬G6 c l i k) (hm:c.states.getD k 0∉l):¬G6 c l i (k+1):=fun h1=>h1.elim (fun e=>h (.inl e)) (fun⟨j,hj,hn,hmm⟩=>by
 by_cases e:j=k
 ·subst e;exact hm hmm
 ·exact h (.inr ⟨j,by omega,hn,hmm⟩))
theorem H0 (h:¬EH c l i k):¬EH c l i (k+1):=fun h1=>h (h1.elim .inl (fun h2=>.inr fun j hj hn=>h2 j (by omega) hn))
theorem H1 (h:l.length=0):EH c l i k:=.inl h
theorem H5 (h:EH c l i k) (hm:c.states.getD k 0∈l):EH c l i (k+1):=h.elim .inl (fun h2=>.inr fun j hj hn=>by
 by_cases e:j=k
 ·subst e;exact hm
 ·exact h2 j (by omega) hn)
theorem KE (h0:¬l.length=0) (h:(k:Int)≠i) (hm:c.states.getD k 0∉l):¬EH c l i (k+1):=fun h1=>h1.elim h0 (fun h2=>hm (h2 k (by omega) h))
end
theorem yT {p:Prop} (h:p):(true=true↔p):=⟨fun _=>h,fun _=>rfl⟩
theorem H6 {p:Prop} (h:¬p):(false=true↔p):=⟨fun e=>(by cases e),fun e=>absurd e h⟩
theorem Cg {p:Prop} (h:false=true↔p):¬p:=fun hp=>by have:=h.2 hp;cases this
theorem H7 (p:an) (s:aJ) (c:az) (r:bo) (i:Int) (hw:bA c=false) (hr:¬oM r):ab Tryz.prog 244 [.agg (pO p s c), .agg (eg r), .int .i64 i] (fun u=>u= .bool (decide (HZ c r i))):=by
 have hbr:=i6 hr
 have hc:=bE hw
 refine ab.intro ae ag Tryz.func244 rfl (by decide) ?_;(conv=>whnf)
 refine al rfl ?_
 conv=>whnf
 refine al rfl ?_
 conv=>whnf
 refine NI ?_
 conv=>whnf
 refine aQ.loopF ae ag (fun x:Nat×Bool×Bool=>x.1<=c.states.length/\(x.2.1=true↔G6 c r.some_ i x.1)/\(x.2.2=true↔EH c r.forall_ i x.1)) (fun x=>[(19, .int .i64 (x.1:Int)),(7, .bool x.2.1),(8, .bool x.2.2)]) (fun _=>[]) (fun x=>c.states.length-x.1) (0,decide ((r.some_.length:Int)=0),true) ⟨Nat.zero_le _,by rw[EI,decide_eq_true_iff];omega,yT EJ⟩ ?_;conv=>whnf
 refine⟨sI,?_⟩
 rintro⟨k,e,a⟩ ⟨hk,he,ha⟩
 dsimp only at hk he ha⊢
 cases e<;>cases a
 all_goals
  conv=>whnf
  refine ah ?_ ?_<;>(intro h1;conv=>whnf)
 case' false.false.refine_2=>exact⟨au (fun hh=>Cg he (by rw[show k=c.states.length by omega];exact hh.1)),rfl⟩
 case' false.true.refine_2=>exact⟨au (fun hh=>Cg he (by rw[show k=c.states.length by omega];exact hh.1)),rfl⟩
 case' true.false.refine_2=>exact⟨au (fun hh=>Cg ha (by rw[show k=c.states.length by omega];exact hh.2)),rfl⟩
 case' true.true.refine_2=>exact⟨aH ⟨by have:=he.1 rfl;rwa [show k=c.states.length by omega] at this,by have:=ha.1 rfl;rwa [show k=c.states.length by omega] at this⟩,rfl⟩
 all_goals
  refine nI ?_
  rw[tN]
  conv=>whnf
  refine ah ?_ ?_<;>(intro h2;conv=>whnf)
  case refine_1=>
   repeat' ((first|refine nI ?_|refine aI ?_|refine tI ?_|refine fI ?_|fail);conv=>whnf)
   exact⟨(k+1,_,_),sI,⟨by dsimp only;omega,he.trans (EK h2).symm,ha.trans (EL h2).symm⟩,by dsimp only;omega⟩
 case' false.false.refine_1=>
  refine dC (be r.some_ _ (by omega)) (fun _=>?_) (fun _=>?_)<;>(conv=>whnf)
  case' refine_1=>have hE:=yT (An h2 (by assumption))
  case' refine_2=>have hE:=H6 (EM (Cg he) (by assumption))
 case' false.true.refine_1=>
  refine dC (be r.some_ _ (by omega)) (fun _=>?_) (fun _=>?_)<;>(conv=>whnf)
  case' refine_1=>have hE:=yT (An h2 (by assumption))
  case' refine_2=>have hE:=H6 (EM (Cg he) (by assumption))
 case' true.false.refine_1=>have hE:=yT (Am (he.1 rfl))
 case' true.true.refine_1=>have hE:=yT (Am (he.1 rfl))
 all_goals first
  |(refine ah ?_ ?_<;>(intro h3;conv=>whnf)
    ·repeat' ((first|refine nI ?_|refine aI ?_|refine tI ?_|refine fI ?_|fail);conv=>whnf)
     exact⟨(k+1,_,_),sI,⟨by dsimp only;omega,hE,yT (H1 (by omega))⟩,by dsimp only;omega⟩
    ·refine dC (be r.forall_ _ (by omega)) (fun _=>?_) (fun _=>?_)<;>(conv=>whnf)
     ·rename_i h4
      repeat' ((first|refine nI ?_|refine aI ?_|refine tI ?_|refine fI ?_|fail);conv=>whnf)
      exact⟨(k+1,_,_),sI,⟨by dsimp only;omega,hE,yT (H5 (ha.1 rfl) h4)⟩,by dsimp only;omega⟩
     ·rename_i h4
      repeat' ((first|refine nI ?_|refine aI ?_|refine tI ?_|refine fI ?_|fail);conv=>whnf)
      exact⟨(k+1,_,_),sI,⟨by dsimp only;omega,hE,H6 (KE (by omega) h2 h4)⟩,by dsimp only;omega⟩)
  |(skip
    repeat' ((first|refine nI ?_|refine aI ?_|refine tI ?_|refine fI ?_|fail);conv=>whnf)
    exact⟨(k+1,_,_),sI,⟨by dsimp only;omega,hE,H6 (H0 (Cg ha))⟩,by dsimp only;omega⟩)
def EN (c:az) (l:List Int) (x:Int):Prop:=l.length=0\/(0<=x/\c.states.getD x.toNat 0∈l)
noncomputable instance decDem (c:az) (l:List Int) (x:Int):Decidable (EN c l x):=Classical.propDecidable _
theorem EO (p:an) (s:aJ) (c:az) (l:List Int) (x:Int) (hl:l.length<=60) (hx:x<c.states.length) (hw:bA c=false):ab Tryz.prog 246 [.agg (pO p s c), .sl 0 ao l, .int .i64 x] (fun u=>u= .bool (decide (EN c l x))):=by
 have hc:=bE hw
 refine ab.intro ae ag Tryz.func246 rfl (by decide) ?_;(conv=>whnf)
 refine al rfl ?_
 conv=>whnf
 refine ah ?_ ?_<;>(intro h1;conv=>whnf)
 ·exact⟨aH (.inl (by omega)),rfl⟩
 refine ah ?_ ?_<;>(intro h2;conv=>whnf)
 ·refine nI ?_
  conv=>whnf
  refine dC (be l _ (by omega)) (fun _=>?_) (fun _=>?_)<;>(conv=>whnf)
  ·rename_i h3;exact⟨aH (.inr ⟨h2,h3⟩),rfl⟩
  ·rename_i h3;exact⟨au (fun h=>h.elim (by omega) (fun h=>h3 h.2)),rfl⟩
 ·exact⟨au (fun h=>h.elim (by omega) (fun h=>h2 h.1)),rfl⟩
end Go.Proofs.YtekmminpfhacpaaGreatDoor
namespace Go.Proofs.YtekmminpfhacpaaGreatDoor
theorem shp.leaf {l:List Int} (h:shp l) {i:Nat} (hi:i<l.length) (h0:l.getD i 0=0):bK l i=i+1:=by
 obtain⟨e,h3,h4⟩:=h.at hi
 rw[ig hi,dh 0,if_pos h0,iq,Option.some.injEq] at e
 have:=congrArg List.length e
 simp only[List.length_drop] at this
 omega
theorem shp.root {l:List Int} (h:shp l) (hl:0<l.length):bK l 0=l.length:=by
 obtain⟨e,h3,h4⟩:=h.at hl
 rw[List.drop_zero,show bS 1 l=some [] from h,Option.some.injEq] at e
 have:=congrArg List.length e
 simp only[List.length_drop,List.length_nil] at this
 omega
theorem shp.parAll {l:List Int} (h:shp l):∀i,i<l.length->(0<i->0<=cB l i/\cB l i<i)/\(bK l i<l.length->0<=cB l (bK l i)/\cB l (bK l i)<i):=by
 intro i
 induction i using Nat.strongRecOn with
 |_ i ih=>
  intro hi
  have one:0<i->0<=cB l i/\cB l i<i:=by
   intro h0
   obtain⟨j,rfl⟩:∃j,i=j+1:=⟨i-1,by omega⟩
   rcases h.zeroTwo (i:=j) (by omega) with h2|h2
   ·have e:=h.leaf (by omega) h2
    have:=(ih j (by omega) (by omega)).2 (by omega)
    rw[e] at this
    omega
   ·have:=sD h (i:=j) (by omega) h2
    omega
  refine⟨one,fun he=>?_⟩
  by_cases h0:i=0
  ·subst h0
   have:=h.root (by omega)
   omega
  ·obtain⟨a,b⟩:=one (by omega)
   rcases q7 l i i with hc|⟨k,hk,hc,hp⟩
   ·unfold cB at a;omega
   ·simp only[fH,Bool.and_eq_true,Bool.or_eq_true,decide_eq_true_eq] at hp
    obtain⟨h2,hp⟩:=hp
    have ht:=h.two (i:=k) (by omega) h2
    rcases hp with hp|hp
    ·have:=q8 h (i:=k) (by omega) h2
     rw[hp] at this
     omega
    ·rw[hp] at ht
     have:=(ih k hk (by omega)).2 (by omega)
     rw[<-ht.2.2.2.1] at this
     omega
theorem uD (l:List Int):cB l 0=-1:=rfl
theorem MP {t:Int} {l:List Int} {n i:Nat} (hi:i<n):-1<=vR t l n i/\vR t l n i<n:=by
 unfold vR
 by_cases h:t=4/\ut t l n=true
 ·rw[if_pos h]
  unfold cB
  rcases q7 l i i with hc|⟨k,hk,hc,_⟩<;>omega
 ·rw[if_neg h];omega
theorem KF {t:Int} {l:List Int} {n:Nat} (h:t=4) (hs:shp l) (hl:l.length=n):ut t l n=true:=by
 unfold ut;rw[decide_eq_true_iff];exact fun _=>⟨hs,hl⟩
set_option maxRecDepth 100000
set_option maxHeartbeats 8000000
structure bH where
 rule:Int
 process:Int
 partner:Int
def dG (x:bH):List AV:=[.int .i64 x.rule, .int .i64 x.process, .int .i64 x.partner]
def bI:bH:=⟨0,0,0⟩
def nF (p:an) (c:az) (i:Nat):Int:=sq p.topology c.shape c.states.length i
def nS (p:an) (c:az) (i:Nat):Int:=sr p.topology c.shape c.states.length i
def nP (p:an) (c:az) (i:Nat):Int:=vR p.topology c.shape c.states.length i
def EP (p:an) (c:az) (r:bo) (i:Nat):Prop:=(r.at_=1->i=0)/\(r.at_=2->(p.topology=2->nS p c i=-1)/\(p.topology=4->nF p c i=-1))
noncomputable instance decPos (p:an) (c:az) (r:bo) (i:Nat):Decidable (EP p c r i):=Classical.propDecidable _
def EQ (p:an) (c:az) (r:bo) (i:Nat) (j:Int):Prop:=if r.direction=1 then nS p c i=j else if r.direction=2 then nF p c i=j else if r.direction=3 then(nF p c i=j\/nS p c i=j) else nP p c i=j
noncomputable instance decPas (p:an) (c:az) (r:bo) (i:Nat) (j:Int):Decidable (EQ p c r i j):=Classical.propDecidable _
def KG (c:az) (r:bo) (x:bH):Prop:=0<=x.partner/\x.partner<c.states.length/\x.partner≠x.process/\c.states.getD x.partner.toNat 0=r.pfrom
def MQ (p:an) (c:az) (r:bo) (i:Nat):Prop:=EP p c r i/\EN c r.left (nF p c i)/\EN c r.right (nS p c i)/\EN c r.parent (nP p c i)
def uE (p:an) (s:aJ) (c:az) (r:bo) (x:bH) (f:Bool):Prop:=
 if r.kind=2\/r.kind=5 then KG c r x/\(r.kind=2\/EQ p c r x.process.toNat x.partner)
 else x.partner=-1/\(if r.kind=1 then nw p s c r f/\HZ c r x.process else if r.kind=3 then True else MQ p c r x.process.toNat)
def NT (p:an) (s:aJ) (c:az) (r:bo) (x:bH) (f:Bool):Prop:=c.states.getD x.process.toNat 0=r.src/\(r.read=-1\/c.value=r.read)/\uE p s c r x f
def mL (p:an) (s:aJ) (c:az) (x:bH) (f:Bool):Prop:=((0<=x.rule/\x.rule<p.rules.length)/\(0<=x.process/\x.process<c.states.length))/\NT p s c (p.rules.getD x.rule.toNat ap) x f
noncomputable instance decEn (p:an) (s:aJ) (c:az) (x:bH) (f:Bool):Decidable (mL p s c x f):=Classical.propDecidable _
theorem yU {p:an} (h:aA p=0):1<=p.topology/\p.topology<=4:=by
 unfold aA at h
 by_cases h1:¬cj p.name
 ·rw[if_pos h1] at h;omega
 rw[if_neg h1] at h
 by_cases h2:p.topology<1\/4<p.topology\/p.fault<0\/3<p.fault
 ·rw[if_pos h2] at h;omega
 ·omega
theorem yV {p:an} (h:aA p=0) (ht:p.topology≠1):p.messages.length=0/\p.values.length=0/\p.resilience.length=0/\p.fault=0:=by
 unfold aA at h
 (repeat' split at h)<;>omega
theorem gI.read {p:an} {r:bo} (h:gI p r):-1<=r.read/\-1<=r.write/\r.read<p.values.length/\r.write<p.values.length:=by
 have hk:=h.kin
 have hs:=h.sur
 have hf:=h.fit
 unfold fR at hf
 unfold cW at hk
 by_cases k1:r.kind=1
 ·rw[if_pos k1] at hk
  have hz:=bB hk
  have a:=lX (hz (eo p.values.length r.read) (by simp))
  have b:=lX (hz (eo p.values.length r.write) (by simp))
  omega
 rw[if_neg k1] at hk
 by_cases k2:r.kind=2
 ·rw[if_pos k2] at hk
  have hz:=bB hk
  have a:=lX (hz (eo p.values.length r.read) (by simp))
  have b:=lX (hz (eo p.values.length r.write) (by simp))
  omega
 rw[if_neg k2] at hk
 by_cases k3:r.kind=3
 ·rw[if_pos k3] at hk
  have hz:=bB hk
  have a:=lX (hz (eo p.values.length r.read) (by simp))
  have b:=lX (hz (eo p.values.length r.write) (by simp))
  omega
 ·unfold iQ at hs
  omega
theorem gI.guards {p:an} {r:bo} (h:gI p r) (hk:r.kind=1):aK p.messages.length r.guards=0:=by
 have:=h.kin
 unfold cW at this
 rw[if_pos hk] at this
 exact bB this _ (by simp)
theorem gI.at4 {p:an} {r:bo} (h:gI p r) (hk:r.kind=4):Eo r.at_ p.topology=0:=by
 have:=h.kin
 unfold cW at this
 rw[if_neg (by omega),if_neg (by omega),if_neg (by omega),if_pos hk] at this
 exact bB this _ (by simp)
theorem KH {p:an} {s:aJ} {c:az} {r:bo} {i:Nat} (h:dx p s c) (hr:gI p r) (hk:r.kind=4) (hi:i<c.states.length):
  EP p c r i↔(r.at_=0\/(r.at_=1/\p.topology=4/\nP p c i<0)\/(r.at_=1/\p.topology≠4/\nF p c i<0)\/(r.at_≠0/\r.at_≠1/\nS p c i<0)):=by
 have hat:=hr.at4 hk
 have ht:=yU h.val
 have hf:=hr.fit
 unfold fR at hf
 unfold Eo at hat
 have hat2:(r.at_=0\/r.at_=1\/r.at_=2)/\(r.at_≠0->p.topology≠3):=by
  split at hat<;>omega
 have htop:p.topology=2\/p.topology=3\/p.topology=4:=by omega
 have lin:p.topology=2->nF p c i=(i:Int)-1/\nS p c i=if i+1=c.states.length then -1 else(i:Int)+1:=fun e=>by
  unfold nF nS sq sr
  rw[if_pos e,if_pos e]
  exact⟨rfl,rfl⟩
 have tre:p.topology=4->nF p c i=mI c.shape i/\nS p c i=kb c.shape i/\nP p c i=cB c.shape i/\(i=0↔cB c.shape i<0):=fun e=>by
  obtain⟨e1,e2⟩:=h.vc.tre e
  have e3:=h.vc.len
  have hlen:c.shape.length=c.states.length:=by
   unfold gk at e3
   have:=yV h.val (by omega)
   rw[if_neg (by omega)] at e3
   omega
  have hl:=KF e e2 hlen
  unfold nF nS nP sq sr vR
  rw[if_neg (by omega),if_neg (by omega),if_pos ⟨e,hl⟩,if_neg (by omega),if_neg (by omega),if_pos ⟨e,hl⟩,if_pos ⟨e,hl⟩]
  refine⟨rfl,rfl,rfl,?_⟩
  constructor
  ·intro e0;subst e0;rw[uD];omega
  ·intro hlt
   by_cases e0:i=0
   ·exact e0
   ·have:=(e2.parAll i (by omega)).1 (by omega)
    omega
 unfold EP
 rcases htop with e|e|e
 ·obtain⟨a,b⟩:=lin e
  by_cases e1:i+1=c.states.length
  ·rw[if_pos e1] at b;constructor<;>intro hh<;>omega
  ·rw[if_neg e1] at b;constructor<;>intro hh<;>omega
 ·constructor<;>intro hh<;>omega
 ·obtain⟨a,b,d,g⟩:=tre e
  unfold mI at a
  unfold kb at b
  by_cases e1:c.shape.getD i 0=2
  ·rw[if_pos e1] at a b;constructor<;>intro hh<;>omega
  ·rw[if_neg e1] at a b;constructor<;>intro hh<;>omega
theorem Ch (p:an) (s:aJ) (c:az) (r:bo) (i:Nat) (h:dx p s c) (hr:gI p r) (hk:r.kind=4) (hi:i<c.states.length):ab Tryz.prog 245 [.agg (pO p s c), .agg (eg r), .int .i64 (i:Int)] (fun u=>u= .bool (decide (EP p c r i))):=by
 have hpe:=KH h hr hk hi
 have f1:((List.range c.states.length).map (sq p.topology c.shape c.states.length)).length=c.states.length:=by simp
 have f2:((List.range c.states.length).map (sr p.topology c.shape c.states.length)).length=c.states.length:=by simp
 have f3:((List.range c.states.length).map (vR p.topology c.shape c.states.length)).length=c.states.length:=by simp
 unfold nF nS nP at hpe
 refine ab.intro ae ag Tryz.func245 rfl (by decide) ?_;(conv=>whnf)
 refine al rfl ?_
 conv=>whnf
 refine al rfl ?_
 conv=>whnf
 refine ah ?_ ?_<;>(intro h1;conv=>whnf)
 ·exact⟨aH (hpe.2 (.inl h1)),rfl⟩
 by_cases h2:r.at_=1
 ·by_cases h3:p.topology=4
  ·repeat' ((first|refine nI ?_|refine aI ?_|refine tI ?_|refine fI ?_|fail);conv=>whnf)
   rw[tN,aM _ _ _ hi]
   refine ah ?_ ?_<;>(intro h4;conv=>whnf)
   ·exact⟨aH (hpe.2 (by omega)),rfl⟩
   ·exact⟨au (fun hh=>by have:=hpe.1 hh;omega),rfl⟩
  ·repeat' ((first|refine nI ?_|refine aI ?_|refine tI ?_|refine fI ?_|fail);conv=>whnf)
   rw[tN,aM _ _ _ hi]
   refine ah ?_ ?_<;>(intro h4;conv=>whnf)
   ·exact⟨aH (hpe.2 (by omega)),rfl⟩
   ·exact⟨au (fun hh=>by have:=hpe.1 hh;omega),rfl⟩
 ·by_cases h3:p.topology=4
  all_goals
   repeat' ((first|refine nI ?_|refine aI ?_|refine tI ?_|refine fI ?_|fail);conv=>whnf)
   rw[tN,aM _ _ _ hi]
   refine ah ?_ ?_<;>(intro h4;conv=>whnf)
   ·exact⟨aH (hpe.2 (by omega)),rfl⟩
   ·exact⟨au (fun hh=>by have:=hpe.1 hh;omega),rfl⟩
theorem H8 (p:an) (s:aJ) (c:az) (r:bo) (i:Nat) (j:Int) (hi:i<c.states.length):ab Tryz.prog 242 [.agg (pO p s c), .agg (eg r), .int .i64 (i:Int), .int .i64 j] (fun u=>u= .bool (decide (EQ p c r i j))):=by
 have f1:((List.range c.states.length).map (sq p.topology c.shape c.states.length)).length=c.states.length:=by simp
 have f2:((List.range c.states.length).map (sr p.topology c.shape c.states.length)).length=c.states.length:=by simp
 have f3:((List.range c.states.length).map (vR p.topology c.shape c.states.length)).length=c.states.length:=by simp
 have he:EQ p c r i j=(if r.direction=1 then sr p.topology c.shape c.states.length i=j else if r.direction=2 then sq p.topology c.shape c.states.length i=j else if r.direction=3 then(sq p.topology c.shape c.states.length i=j\/sr p.topology c.shape c.states.length i=j) else vR p.topology c.shape c.states.length i=j):=rfl
 refine ab.intro ae ag Tryz.func242 rfl (by decide) ?_;(conv=>whnf)
 refine al rfl ?_
 conv=>whnf
 refine al rfl ?_
 conv=>whnf
 by_cases h1:r.direction=1
 ·rw[if_pos h1] at he
  repeat' ((first|refine nI ?_|refine aI ?_|refine tI ?_|refine fI ?_|fail);conv=>whnf)
  rw[tN,aM _ _ _ hi]
  refine ah ?_ ?_<;>(intro h4;conv=>whnf)
  ·exact⟨aH (by rw[he];exact h4),rfl⟩
  ·exact⟨au (by rw[he];exact h4),rfl⟩
 rw[if_neg h1] at he
 by_cases h2:r.direction=2
 ·rw[if_pos h2] at he
  repeat' ((first|refine nI ?_|refine aI ?_|refine tI ?_|refine fI ?_|fail);conv=>whnf)
  rw[tN,aM _ _ _ hi]
  refine ah ?_ ?_<;>(intro h4;conv=>whnf)
  ·exact⟨aH (by rw[he];exact h4),rfl⟩
  ·exact⟨au (by rw[he];exact h4),rfl⟩
 rw[if_neg h2] at he
 by_cases h3:r.direction=3
 ·rw[if_pos h3] at he
  repeat' ((first|refine nI ?_|refine aI ?_|refine tI ?_|refine fI ?_|fail);conv=>whnf)
  rw[tN,aM _ _ _ hi]
  refine ah ?_ ?_<;>(intro h4;conv=>whnf)
  ·exact⟨aH (by rw[he];exact .inl h4),rfl⟩
  refine nI ?_
  rw[tN,aM _ _ _ hi]
  conv=>whnf
  refine ah ?_ ?_<;>(intro h5;conv=>whnf)
  ·exact⟨aH (by rw[he];exact .inr h5),rfl⟩
  ·exact⟨au (by rw[he];exact fun h=>h.elim h4 h5),rfl⟩
 ·rw[if_neg h3] at he
  repeat' ((first|refine nI ?_|refine aI ?_|refine tI ?_|refine fI ?_|fail);conv=>whnf)
  rw[tN,aM _ _ _ hi]
  refine ah ?_ ?_<;>(intro h4;conv=>whnf)
  ·exact⟨aH (by rw[he];exact h4),rfl⟩
  ·exact⟨au (by rw[he];exact h4),rfl⟩
end Go.Proofs.YtekmminpfhacpaaGreatDoor
