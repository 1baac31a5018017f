import Derived.Test.YtekmminpfhacpaaGreatDoorM5
set_option linter.unusedVariables false
set_option linter.unusedSimpArgs false
namespace Go.Proofs.YtekmminpfhacpaaGreatDoor
section
set_option maxRecDepth 100000
set_option maxHeartbeats 8000000
def RF (q:aJ) (c:aD):Prop:=∀j,j<q.bad.length->(q.bad.getD j dv).least<=RE (q.bad.getD j dv).states (c.states.take c.correct.toNat)
def Qm (p:ap) (q:aJ) (c:aD):Prop:=RF q c/\(q.adjacent.length=0\/Ql p c q.adjacent)
noncomputable instance decBad (p:ap) (q:aJ) (c:aD):Decidable (Qm p q c):=Classical.propDecidable _
def cntS:Sh:=jP (.int .nil)
def cntOf:gY cntS->Mv
 |(a,b,_)=>⟨mJ a,b⟩
section
variable {S:ah}
theorem cv_cnt (y:gY cntS):Am S (cu cntS y) (iz (cntOf y)):=by
 obtain⟨a,b,⟨⟩⟩:=y
 exact⟨Cv.ints a,Cv.refl _ _,trivial⟩
theorem cv_cnts (l:List (gY cntS)):Cv S (.sl (jy cntS) (cu cntS) l) (.sl dv iz (l.map cntOf)):=
 Cv.sl (d:=jy cntS) (enc:=cu cntS) dv iz cntOf fun y _=>⟨cv_cnt y,rfl⟩
end
end
section
set_option maxRecDepth 100000
set_option maxHeartbeats 8000000
def RG (p:ap) (c:aD):List AV:=[.sl 0 ak ((List.range c.states.length).map (wN p.topology c.shape c.states.length)), .sl 0 ak ((List.range c.states.length).map (wO p.topology c.shape c.states.length)), .sl 0 ak ((List.range c.states.length).map (yT p.topology c.shape c.states.length))]
def tF (p:ap) (s:aN) (c:aD):List AV:=dg p++(gr s++(cy c++RG p c))
theorem KK (p:ap) (s:aN) (c:aD) (hw:dA c=false):ab Tryz.prog 152 [.agg (dg p), .agg (gr s), .agg (cy c)] (fun u=>u= .agg (tF p s c)):=by
 have hc:=eY hw
 refine ab.intro ae ag Tryz.func152 rfl (by decide) ?_;(conv=>whnf)
 refine ar rfl ?_
 conv=>whnf
 refine ar rfl ?_
 conv=>whnf
 refine ar rfl ?_
 conv=>whnf
 (refine oP (P' p.topology c.shape c.states.length (by omega) (by omega)) ?_;conv=>whnf)
 exact⟨rfl,rfl⟩
def Bk (p:ap) (s:aN) (c:aD) (m:Int):Bool->Int
 |false=>c.sent.getD m.toNat 0+(if p.fault=1\/p.fault=2 then c.faulty.getD m.toNat 0 else if p.fault=3 then s.f else 0)
 |true=>c.sent.getD m.toNat 0+(if p.fault=1 then c.faulty.getD m.toNat 0 else 0)
theorem NP {p:ap} {s:aN} {c:aD} {m:Int} (f:Bool) (h1:qA c.sent 1048577) (h2:qA c.faulty 1048577) (hm:0<=m/\m<c.sent.length/\m<c.faulty.length) (hs:0<=s.f/\s.f<=1048576):0<=Bk p s c m f/\Bk p s c m f<=2097152:=by
 have a1:=h1 m.toNat (by omega)
 have a2:=h2 m.toNat (by omega)
 cases f<;>unfold Bk<;>dsimp only<;>(repeat' split)<;>omega
theorem GP (p:ap) (s:aN) (c:aD) (m:Int) (f:Bool) (h1:qA c.sent 1048577) (h2:qA c.faulty 1048577) (hm:0<=m/\m<c.sent.length/\m<c.faulty.length) (hs:0<=s.f/\s.f<=1048576):ab Tryz.prog 279 [.agg (tF p s c), .int .i64 m, .bool f] (fun u=>u= .int .i64 (Bk p s c m f)):=by
 have a1:=h1 m.toNat (by omega)
 have a2:=h2 m.toNat (by omega)
 cases f
 all_goals
  refine ab.intro ae ag Tryz.func279 rfl (by decide) ?_;(conv=>whnf)
  refine ar rfl ?_
  conv=>whnf
  refine nI ?_
  conv=>whnf
  repeat' ((first|refine nI ?_|refine aI ?_|refine uI ?_|refine vI ?_|refine dI ?_|refine dR ?_|refine dP ?_|refine ar rfl ?_|refine pI _ rfl ?_|refine an _ rfl ?_|refine tI ?_|refine fI ?_|refine ai (fun _=>?_) (fun _=>?_))<;>conv=>whnf)
  all_goals
   refine⟨aq ?_,rfl⟩
   unfold Bk
   dsimp only
   (repeat' split)<;>omega
theorem pq {i n:Int} (h:gO i n=0):0<=i/\i<n:=by
 unfold gO at h;split at h<;>omega
theorem nk {m v:Int} (h:mH m v=0):-1<=v/\v<m:=by
 unfold mH at h;split at h<;>omega
theorem Qn {m:Int} {g:fL} (h:gE m g=0):(0<=g.message/\g.message<m)/\(1<=g.coef/\g.coef<=100)/\fP g.bound:=by
 have hz:=cz h
 have h1:=hz (gO g.message m) (by simp)
 have h2:=hz (oa g.coef) (by simp)
 have h3:=hz (po g.bound) (by simp)
 refine⟨pq h1,?_,?_⟩
 ·unfold oa at h2;split at h2<;>omega
 ·unfold po at h3;split at h3
  ·assumption
  ·omega
theorem Bl {m:Int} {l:List fL} (h:cF m l=0):∀j,j<l.length->(0<=(l.getD j aW).message/\(l.getD j aW).message<m)/\(1<=(l.getD j aW).coef/\(l.getD j aW).coef<=100)/\fP (l.getD j aW).bound:=by
 intro j hj
 unfold cF at h
 by_cases h1:fF (l.map (gE m))=0
 ·exact Qn (cz h1 _ (List.mem_map.2 ⟨_,by rw[gD,gL hj];exact List.getElem_mem _,rfl⟩))
 ·rw[if_pos h1] at h;omega
structure il (p:ap) (r:bE):Prop where
 fit:kq r.kind p.topology
 sur:¬ov r p.topology
 src:0<=r.src/\r.src<p.states.length
 dst:0<=r.dst/\r.dst<p.states.length
 kin:fg p r=0
theorem GQ {p:ap} {i:Nat} {r:bE} (h:fM p i r=0):il p r:=by
 unfold fM at h
 by_cases h1:¬dq r.name\/mI p.rules i r
 ·rw[if_pos h1] at h;omega
 rw[if_neg h1] at h
 by_cases h2:¬kq r.kind p.topology\/ov r p.topology
 ·rw[if_pos h2] at h;omega
 rw[if_neg h2] at h
 have hz:=cz h
 refine⟨?_,fun hs=>h2 (.inr hs),pq (hz _ (by simp)),pq (hz _ (by simp)),hz _ (by simp)⟩
 by_cases hf:kq r.kind p.topology
 ·exact hf
 ·exact absurd (.inl hf) h2
theorem dK {p:ap} (h:aL p=0) {i:Nat} (hi:i<p.rules.length):il p (p.rules.getD i au):=by
 unfold aL at h
 have ht:GI p=0:=by
  (repeat' split at h)<;>first|exact h|omega
 have hz:=cz ht (lq p) (by simp)
 refine GQ (i:=i) (cz hz _ (List.mem_map.2 ⟨i,List.mem_range.2 hi,rfl⟩))
structure fp (p:ap) (s:aN) (c:aD):Prop where
 big:¬jZ p
 wide:dA c=false
 val:aL p=0
 siz:Mu s
 sz:(1<=s.n/\s.n<=8)/\(0<=s.f/\s.f<=s.n)
 adm:uE p s
 vc:VC p s c
theorem fp.of {p:ap} {s:aN} {c:aD} (hp:¬jZ p) (hw:dA c=false) (h:du p s c=0):fp p s c:=by
 unfold du at h
 by_cases h1:dV p s≠0
 ·rw[if_pos h1] at h;omega
 rw[if_neg h1] at h
 have h2:=kv (p:=p) (s:=s) (by omega)
 refine⟨hp,hw,h2.1,by unfold Mu;omega,by omega,h2.2.1,?_⟩
 unfold wU at h
 by_cases h3:VC p s c
 ·exact h3
 ·rw[if_neg h3] at h;omega
theorem fp.sent {p:ap} {s:aN} {c:aD} (h:fp p s c):qA c.sent 1048577/\qA c.faulty 1048577:=by
 refine⟨h.vc.sen,fun j hj=>?_⟩
 have:=h.vc.fau j hj
 have e:Bh p<=1048576:=by unfold Bh;split<;>omega
 omega
def w4 (p:ap) (s:aN) (c:aD) (f:Bool) (g:fL):Prop:=ku g.bound s<=g.coef*Bk p s c g.message f
def qE (p:ap) (s:aN) (c:aD) (r:bE) (f:Bool):Prop:=∀j,j<r.guards.length->w4 p s c f (r.guards.getD j aW)
noncomputable instance decGrd (p:ap) (s:aN) (c:aD) (r:bE) (f:Bool):Decidable (qE p s c r f):=Classical.propDecidable _
theorem Qo {a b:Int} (ha:1<=a/\a<=100) (hb:0<=b/\b<=2097152):0<=a*b/\a*b<=209715200:=by
 have h1:0<=a*b:=Int.mul_nonneg (by omega) hb.1
 have h2:a*b<=100*2097152:=Int.mul_le_mul (by omega) hb.2 hb.1 (by omega)
 omega
theorem KL (p:ap) (s:aN) (c:aD) (r:bE) (f:Bool) (h:fp p s c) (hr:¬qy r) (hg:cF p.messages.length r.guards=0):ab Tryz.prog 243 [.agg (tF p s c), .agg (iu r), .bool f] (fun u=>u= .bool (decide (qE p s c r f))):=by
 have hle:=eX h.big
 have hbr:=jM hr
 have hgs:=Bl hg
 have hsn:=h.vc.snl
 have hfa:=h.vc.fal
 have hz:=h.siz
 unfold Mu at hz
 refine ab.intro ae ag Tryz.func243 rfl (by decide) ?_;(conv=>whnf)
 refine ar rfl ?_
 conv=>whnf
 refine ar rfl ?_
 conv=>whnf
 refine a8.loopF ae ag (fun k:Nat=>k<=r.guards.length/\∀j,j<k->w4 p s c f (r.guards.getD j aW)) (fun k=>[(14, .int .i64 (k:Int))]) (fun _=>[]) (fun k=>r.guards.length-k) 0 ⟨by omega,fun j hj=>by omega⟩ ?_;conv=>whnf
 refine⟨sI,?_⟩
 rintro k ⟨hk,ha⟩
 conv=>whnf
 refine ai ?_ ?_<;>(intro h1;conv=>whnf)
 ·obtain⟨g1,g2,g3⟩:=hgs k (by omega)
  have nok:¬w4 p s c f (r.guards.getD k aW)->¬qE p s c r f:=fun hn hb=>hn (hb k (by omega))
  have next:w4 p s c f (r.guards.getD k aW)->∀j,j<k+1->w4 p s c f (r.guards.getD j aW):=fun hn j hj=>by
   by_cases e:j=k
   ·subst e;exact hn
   ·exact ha j (by omega)
  refine nI ?_
  rw[tN]
  generalize r.guards.getD k aW=g at g1 g2 g3 nok next
  have hb:=NP (p:=p) (s:=s) (c:=c) (m:=g.message) f h.sent.1 h.sent.2 (by omega) (by omega)
  have hm:=Qo g2 hb
  conv=>whnf
  (refine oP (vv g.bound s g3 h.siz) ?_;conv=>whnf)
  refine dI ?_
  conv=>whnf
  (refine oC (GP p s c g.message f h.sent.1 h.sent.2 (by omega) (by omega)) ?_;conv=>whnf)
  repeat' ((first|refine nI ?_|refine aI ?_|refine tI ?_|refine fI ?_|fail);conv=>whnf)
  refine ai ?_ ?_<;>(intro h2;conv=>whnf)
  ·exact⟨aC (nok (by unfold w4;omega)),rfl⟩
  ·repeat' ((first|refine nI ?_|refine aI ?_|refine tI ?_|refine fI ?_|fail);conv=>whnf)
   exact⟨k+1,sI,⟨by omega,next (by unfold w4;omega)⟩,by dsimp only;omega⟩
 ·exact⟨bk (fun j hj=>ha j (by omega)),rfl⟩
def JT (c:aD) (l:List Int) (i:Int) (k:Nat):Prop:=l.length=0\/∃j,j<k/\(j:Int)≠i/\c.states.getD j 0∈l
def GR (c:aD) (l:List Int) (i:Int) (k:Nat):Prop:=l.length=0\/∀j,j<k->(j:Int)≠i->c.states.getD j 0∈l
def KM (c:aD) (r:bE) (i:Int):Prop:=JT c r.some_ i c.states.length/\GR c r.forall_ i c.states.length
noncomputable instance decOth (c:aD) (r:bE) (i:Int):Decidable (KM c r i):=Classical.propDecidable _
section
variable {c:aD} {l:List Int} {i:Int} {k:Nat}
theorem GS:JT c l i 0↔l.length=0:=⟨fun h=>h.elim id (fun⟨j,hj,_⟩=>by omega), .inl⟩
theorem GT:GR c l i 0:=.inr fun j hj=>by omega
theorem GU (h:(k:Int)=i):JT c l i (k+1)↔JT c l i k:=
 ⟨fun h1=>h1.elim .inl (fun⟨j,hj,hn,hm⟩=>.inr ⟨j,by omega,hn,hm⟩),fun h1=>h1.elim .inl (fun⟨j,hj,hn,hm⟩=>.inr ⟨j,by omega,hn,hm⟩)⟩
theorem GV (h:(k:Int)=i):GR c l i (k+1)↔GR c l i k:=
 ⟨fun h1=>h1.elim .inl (fun h2=>.inr fun j hj hn=>h2 j (by omega) hn),fun h1=>h1.elim .inl (fun h2=>.inr fun j hj hn=>h2 j (by omega) hn)⟩
theorem CN (h:JT c l i k):JT c l i (k+1):=h.elim .inl (fun⟨j,hj,hn,hm⟩=>.inr ⟨j,by omega,hn,hm⟩)
theorem CO (h:(k:Int)≠i) (hm:c.states.getD k 0∈l):JT c l i (k+1):=.inr ⟨k,by omega,h,hm⟩
theorem GW (h:¬JT c l i k) (hm:c.states.getD k 0∉l):¬JT c l i (k+1):=fun h1=>h1.elim (fun e=>h (.inl e)) (fun⟨j,hj,hn,hmm⟩=>by
 by_cases e:j=k
 ·subst e;exact hm hmm
 ·exact h (.inr ⟨j,by omega,hn,hmm⟩))
theorem KN (h:¬GR c l i k):¬GR c l i (k+1):=fun h1=>h (h1.elim .inl (fun h2=>.inr fun j hj hn=>h2 j (by omega) hn))
theorem KO (h:l.length=0):GR c l i k:=.inl h
theorem KP (h:GR c l i k) (hm:c.states.getD k 0∈l):GR c l i (k+1):=h.elim .inl (fun h2=>.inr fun j hj hn=>by
 by_cases e:j=k
 ·subst e;exact hm
 ·exact h2 j (by omega) hn)
theorem NQ (h0:¬l.length=0) (h:(k:Int)≠i) (hm:c.states.getD k 0∉l):¬GR c l i (k+1):=fun h1=>h1.elim h0 (fun h2=>hm (h2 k (by omega) h))
end
theorem Bm {p:Prop} (h:p):(true=true↔p):=⟨fun _=>h,fun _=>rfl⟩
theorem KQ {p:Prop} (h:¬p):(false=true↔p):=⟨fun e=>(by cases e),fun e=>absurd e h⟩
theorem EH {p:Prop} (h:false=true↔p):¬p:=fun hp=>by have:=h.2 hp;cases this
theorem KR (p:ap) (s:aN) (c:aD) (r:bE) (i:Int) (hw:dA c=false) (hr:¬qy r):ab Tryz.prog 244 [.agg (tF p s c), .agg (iu r), .int .i64 i] (fun u=>u= .bool (decide (KM c r i))):=by
 have hbr:=jM hr
 have hc:=eY hw
 refine ab.intro ae ag Tryz.func244 rfl (by decide) ?_;(conv=>whnf)
 refine ar rfl ?_
 conv=>whnf
 refine ar rfl ?_
 conv=>whnf
 refine Rp ?_
 conv=>whnf
 refine a8.loopF ae ag (fun x:Nat×Bool×Bool=>x.1<=c.states.length/\(x.2.1=true↔JT c r.some_ i x.1)/\(x.2.2=true↔GR c r.forall_ i x.1)) (fun x=>[(19, .int .i64 (x.1:Int)),(7, .bool x.2.1),(8, .bool x.2.2)]) (fun _=>[]) (fun x=>c.states.length-x.1) (0,decide ((r.some_.length:Int)=0),true) ⟨Nat.zero_le _,by rw[GS,decide_eq_true_iff];omega,Bm GT⟩ ?_;conv=>whnf
 refine⟨sI,?_⟩
 rintro⟨k,e,a⟩ ⟨hk,he,ha⟩
 dsimp only at hk he ha⊢
 cases e<;>cases a
 all_goals
  conv=>whnf
  refine ai ?_ ?_<;>(intro h1;conv=>whnf)
 case' false.false.refine_2=>exact⟨aC (fun hh=>EH he (by rw[show k=c.states.length by omega];exact hh.1)),rfl⟩
 case' false.true.refine_2=>exact⟨aC (fun hh=>EH he (by rw[show k=c.states.length by omega];exact hh.1)),rfl⟩
 case' true.false.refine_2=>exact⟨aC (fun hh=>EH ha (by rw[show k=c.states.length by omega];exact hh.2)),rfl⟩
 case' true.true.refine_2=>exact⟨bk ⟨by have:=he.1 rfl;rwa [show k=c.states.length by omega] at this,by have:=ha.1 rfl;rwa [show k=c.states.length by omega] at this⟩,rfl⟩
 all_goals
  refine nI ?_
  rw[tN]
  conv=>whnf
  refine ai ?_ ?_<;>(intro h2;conv=>whnf)
  case refine_1=>
   repeat' ((first|refine nI ?_|refine aI ?_|refine tI ?_|refine fI ?_|fail);conv=>whnf)
   exact⟨(k+1,_,_),sI,⟨by dsimp only;omega,he.trans (GU h2).symm,ha.trans (GV h2).symm⟩,by dsimp only;omega⟩
 case' false.false.refine_1=>
  refine dC (bN r.some_ _ (by omega)) (fun _=>?_) (fun _=>?_)<;>(conv=>whnf)
  case' refine_1=>have hE:=Bm (CO h2 (by assumption))
  case' refine_2=>have hE:=KQ (GW (EH he) (by assumption))
 case' false.true.refine_1=>
  refine dC (bN r.some_ _ (by omega)) (fun _=>?_) (fun _=>?_)<;>(conv=>whnf)
  case' refine_1=>have hE:=Bm (CO h2 (by assumption))
  case' refine_2=>have hE:=KQ (GW (EH he) (by assumption))
 case' true.false.refine_1=>have hE:=Bm (CN (he.1 rfl))
 case' true.true.refine_1=>have hE:=Bm (CN (he.1 rfl))
 all_goals first
  |(refine ai ?_ ?_<;>(intro h3;conv=>whnf)
    ·repeat' ((first|refine nI ?_|refine aI ?_|refine tI ?_|refine fI ?_|fail);conv=>whnf)
     exact⟨(k+1,_,_),sI,⟨by dsimp only;omega,hE,Bm (KO (by omega))⟩,by dsimp only;omega⟩
    ·refine dC (bN r.forall_ _ (by omega)) (fun _=>?_) (fun _=>?_)<;>(conv=>whnf)
     ·rename_i h4
      repeat' ((first|refine nI ?_|refine aI ?_|refine tI ?_|refine fI ?_|fail);conv=>whnf)
      exact⟨(k+1,_,_),sI,⟨by dsimp only;omega,hE,Bm (KP (ha.1 rfl) h4)⟩,by dsimp only;omega⟩
     ·rename_i h4
      repeat' ((first|refine nI ?_|refine aI ?_|refine tI ?_|refine fI ?_|fail);conv=>whnf)
      exact⟨(k+1,_,_),sI,⟨by dsimp only;omega,hE,KQ (NQ (by omega) h2 h4)⟩,by dsimp only;omega⟩)
  |(skip
    repeat' ((first|refine nI ?_|refine aI ?_|refine tI ?_|refine fI ?_|fail);conv=>whnf)
    exact⟨(k+1,_,_),sI,⟨by dsimp only;omega,hE,KQ (KN (EH ha))⟩,by dsimp only;omega⟩)
def GX (c:aD) (l:List Int) (x:Int):Prop:=l.length=0\/(0<=x/\c.states.getD x.toNat 0∈l)
noncomputable instance decDem (c:aD) (l:List Int) (x:Int):Decidable (GX c l x):=Classical.propDecidable _
theorem GY (p:ap) (s:aN) (c:aD) (l:List Int) (x:Int) (hl:l.length<=60) (hx:x<c.states.length) (hw:dA c=false):ab Tryz.prog 246 [.agg (tF p s c), .sl 0 ak l, .int .i64 x] (fun u=>u= .bool (decide (GX c l x))):=by
 have hc:=eY hw
 refine ab.intro ae ag Tryz.func246 rfl (by decide) ?_;(conv=>whnf)
 refine ar rfl ?_
 conv=>whnf
 refine ai ?_ ?_<;>(intro h1;conv=>whnf)
 ·exact⟨bk (.inl (by omega)),rfl⟩
 refine ai ?_ ?_<;>(intro h2;conv=>whnf)
 ·refine nI ?_
  conv=>whnf
  refine dC (bN l _ (by omega)) (fun _=>?_) (fun _=>?_)<;>(conv=>whnf)
  ·rename_i h3;exact⟨bk (.inr ⟨h2,h3⟩),rfl⟩
  ·rename_i h3;exact⟨aC (fun h=>h.elim (by omega) (fun h=>h3 h.2)),rfl⟩
 ·exact⟨aC (fun h=>h.elim (by omega) (fun h=>h2 h.1)),rfl⟩
end
section
theorem shp.leaf {l:List Int} (h:shp l) {i:Nat} (hi:i<l.length) (h0:l.getD i 0=0):bJ l i=i+1:=by
 obtain⟨e,h3,h4⟩:=h.at hi
 rw[i5 hi,dH 0,if_pos h0,jl,Option.some.injEq] at e
 have:=congrArg List.length e
 simp only[List.length_drop] at this
 omega
theorem shp.root {l:List Int} (h:shp l) (hl:0<l.length):bJ l 0=l.length:=by
 obtain⟨e,h3,h4⟩:=h.at hl
 rw[List.drop_zero,show bW 1 l=some [] from h,Option.some.injEq] at e
 have:=congrArg List.length e
 simp only[List.length_drop,List.length_nil] at this
 omega
theorem shp.parAll {l:List Int} (h:shp l):∀i,i<l.length->(0<i->0<=cO l i/\cO l i<i)/\(bJ l i<l.length->0<=cO l (bJ l i)/\cO l (bJ l i)<i):=by
 intro i
 induction i using Nat.strongRecOn with
 |_ i ih=>
  intro hi
  have one:0<i->0<=cO l i/\cO l i<i:=by
   intro h0
   obtain⟨j,rfl⟩:∃j,i=j+1:=⟨i-1,by omega⟩
   rcases h.zeroTwo (i:=j) (by omega) with h2|h2
   ·have e:=h.leaf (by omega) h2
    have:=(ih j (by omega) (by omega)).2 (by omega)
    rw[e] at this
    omega
   ·have:=uB h (i:=j) (by omega) h2
    omega
  refine⟨one,fun he=>?_⟩
  by_cases h0:i=0
  ·subst h0
   have:=h.root (by omega)
   omega
  ·obtain⟨a,b⟩:=one (by omega)
   rcases tw l i i with hc|⟨k,hk,hc,hp⟩
   ·unfold cO at a;omega
   ·simp only[ge,Bool.and_eq_true,Bool.or_eq_true,decide_eq_true_eq] at hp
    obtain⟨h2,hp⟩:=hp
    have ht:=h.two (i:=k) (by omega) h2
    rcases hp with hp|hp
    ·have:=tx h (i:=k) (by omega) h2
     rw[hp] at this
     omega
    ·rw[hp] at ht
     have:=(ih k hk (by omega)).2 (by omega)
     rw[<-ht.2.2.2.1] at this
     omega
theorem w5 (l:List Int):cO l 0=-1:=rfl
theorem Qp {t:Int} {l:List Int} {n i:Nat} (hi:i<n):-1<=yT t l n i/\yT t l n i<n:=by
 unfold yT
 by_cases h:t=4/\wM t l n=true
 ·rw[if_pos h]
  unfold cO
  rcases tw l i i with hc|⟨k,hk,hc,_⟩<;>omega
 ·rw[if_neg h];omega
theorem NR {t:Int} {l:List Int} {n:Nat} (h:t=4) (hs:shp l) (hl:l.length=n):wM t l n=true:=by
 unfold wM;rw[decide_eq_true_iff];exact fun _=>⟨hs,hl⟩
set_option maxRecDepth 100000
set_option maxHeartbeats 8000000
structure bX where
 rule:Int
 process:Int
 partner:Int
def iA (x:bX):List AV:=[.int .i64 x.rule, .int .i64 x.process, .int .i64 x.partner]
def cX:bX:=⟨0,0,0⟩
def nF (p:ap) (c:aD) (i:Nat):Int:=wN p.topology c.shape c.states.length i
def nS (p:ap) (c:aD) (i:Nat):Int:=wO p.topology c.shape c.states.length i
def nP (p:ap) (c:aD) (i:Nat):Int:=yT p.topology c.shape c.states.length i
def GZ (p:ap) (c:aD) (r:bE) (i:Nat):Prop:=(r.at_=1->i=0)/\(r.at_=2->(p.topology=2->nS p c i=-1)/\(p.topology=4->nF p c i=-1))
noncomputable instance decPos (p:ap) (c:aD) (r:bE) (i:Nat):Decidable (GZ p c r i):=Classical.propDecidable _
def G0 (p:ap) (c:aD) (r:bE) (i:Nat) (j:Int):Prop:=if r.direction=1 then nS p c i=j else if r.direction=2 then nF p c i=j else if r.direction=3 then(nF p c i=j\/nS p c i=j) else nP p c i=j
noncomputable instance decPas (p:ap) (c:aD) (r:bE) (i:Nat) (j:Int):Decidable (G0 p c r i j):=Classical.propDecidable _
def NS (c:aD) (r:bE) (x:bX):Prop:=0<=x.partner/\x.partner<c.states.length/\x.partner≠x.process/\c.states.getD x.partner.toNat 0=r.pfrom
def Qq (p:ap) (c:aD) (r:bE) (i:Nat):Prop:=GZ p c r i/\GX c r.left (nF p c i)/\GX c r.right (nS p c i)/\GX c r.parent (nP p c i)
def Bn (p:ap) (s:aN) (c:aD) (r:bE) (x:bX) (f:Bool):Prop:=
 if r.kind=2\/r.kind=5 then NS c r x/\(r.kind=2\/G0 p c r x.process.toNat x.partner)
 else x.partner=-1/\(if r.kind=1 then qE p s c r f/\KM c r x.process else if r.kind=3 then True else Qq p c r x.process.toNat)
def RH (p:ap) (s:aN) (c:aD) (r:bE) (x:bX) (f:Bool):Prop:=c.states.getD x.process.toNat 0=r.src/\(r.read=-1\/c.value=r.read)/\Bn p s c r x f
def qc (p:ap) (s:aN) (c:aD) (x:bX) (f:Bool):Prop:=((0<=x.rule/\x.rule<p.rules.length)/\(0<=x.process/\x.process<c.states.length))/\RH p s c (p.rules.getD x.rule.toNat au) x f
noncomputable instance decEn (p:ap) (s:aN) (c:aD) (x:bX) (f:Bool):Decidable (qc p s c x f):=Classical.propDecidable _
theorem Bo {p:ap} (h:aL p=0):1<=p.topology/\p.topology<=4:=by
 unfold aL at h
 by_cases h1:¬dq p.name
 ·rw[if_pos h1] at h;omega
 rw[if_neg h1] at h
 by_cases h2:p.topology<1\/4<p.topology\/p.fault<0\/3<p.fault
 ·rw[if_pos h2] at h;omega
 ·omega
theorem Bp {p:ap} (h:aL p=0) (ht:p.topology≠1):p.messages.length=0/\p.values.length=0/\p.resilience.length=0/\p.fault=0:=by
 unfold aL at h
 (repeat' split at h)<;>omega
theorem il.read {p:ap} {r:bE} (h:il p r):-1<=r.read/\-1<=r.write/\r.read<p.values.length/\r.write<p.values.length:=by
 have hk:=h.kin
 have hs:=h.sur
 have hf:=h.fit
 unfold kq at hf
 unfold fg at hk
 by_cases k1:r.kind=1
 ·rw[if_pos k1] at hk
  have hz:=cz hk
  have a:=nk (hz (mH p.values.length r.read) (by simp))
  have b:=nk (hz (mH p.values.length r.write) (by simp))
  omega
 rw[if_neg k1] at hk
 by_cases k2:r.kind=2
 ·rw[if_pos k2] at hk
  have hz:=cz hk
  have a:=nk (hz (mH p.values.length r.read) (by simp))
  have b:=nk (hz (mH p.values.length r.write) (by simp))
  omega
 rw[if_neg k2] at hk
 by_cases k3:r.kind=3
 ·rw[if_pos k3] at hk
  have hz:=cz hk
  have a:=nk (hz (mH p.values.length r.read) (by simp))
  have b:=nk (hz (mH p.values.length r.write) (by simp))
  omega
 ·unfold ov at hs
  omega
theorem il.guards {p:ap} {r:bE} (h:il p r) (hk:r.kind=1):cF p.messages.length r.guards=0:=by
 have:=h.kin
 unfold fg at this
 rw[if_pos hk] at this
 exact cz this _ (by simp)
theorem il.at4 {p:ap} {r:bE} (h:il p r) (hk:r.kind=4):NG r.at_ p.topology=0:=by
 have:=h.kin
 unfold fg at this
 rw[if_neg (by omega),if_neg (by omega),if_neg (by omega),if_pos hk] at this
 exact cz this _ (by simp)
theorem NT {p:ap} {s:aN} {c:aD} {r:bE} {i:Nat} (h:fp p s c) (hr:il p r) (hk:r.kind=4) (hi:i<c.states.length):
  GZ p c r i↔(r.at_=0\/(r.at_=1/\p.topology=4/\nP p c i<0)\/(r.at_=1/\p.topology≠4/\nF p c i<0)\/(r.at_≠0/\r.at_≠1/\nS p c i<0)):=by
 have hat:=hr.at4 hk
 have ht:=Bo h.val
 have hf:=hr.fit
 unfold kq at hf
 unfold NG at hat
 have hat2:(r.at_=0\/r.at_=1\/r.at_=2)/\(r.at_≠0->p.topology≠3):=by
  split at hat<;>omega
 have htop:p.topology=2\/p.topology=3\/p.topology=4:=by omega
 have lin:p.topology=2->nF p c i=(i:Int)-1/\nS p c i=if i+1=c.states.length then -1 else(i:Int)+1:=fun e=>by
  unfold nF nS wN wO
  rw[if_pos e,if_pos e]
  exact⟨rfl,rfl⟩
 have tre:p.topology=4->nF p c i=ot c.shape i/\nS p c i=ll c.shape i/\nP p c i=cO c.shape i/\(i=0↔cO c.shape i<0):=fun e=>by
  obtain⟨e1,e2⟩:=h.vc.tre e
  have e3:=h.vc.len
  have hlen:c.shape.length=c.states.length:=by
   unfold iy at e3
   have:=Bp h.val (by omega)
   rw[if_neg (by omega)] at e3
   omega
  have hl:=NR e e2 hlen
  unfold nF nS nP wN wO yT
  rw[if_neg (by omega),if_neg (by omega),if_pos ⟨e,hl⟩,if_neg (by omega),if_neg (by omega),if_pos ⟨e,hl⟩,if_pos ⟨e,hl⟩]
  refine⟨rfl,rfl,rfl,?_⟩
  constructor
  ·intro e0;subst e0;rw[w5];omega
  ·intro hlt
   by_cases e0:i=0
   ·exact e0
   ·have:=(e2.parAll i (by omega)).1 (by omega)
    omega
 unfold GZ
 rcases htop with e|e|e
 ·obtain⟨a,b⟩:=lin e
  by_cases e1:i+1=c.states.length
  ·rw[if_pos e1] at b;constructor<;>intro hh<;>omega
  ·rw[if_neg e1] at b;constructor<;>intro hh<;>omega
 ·constructor<;>intro hh<;>omega
 ·obtain⟨a,b,d,g⟩:=tre e
  unfold ot at a
  unfold ll at b
  by_cases e1:c.shape.getD i 0=2
  ·rw[if_pos e1] at a b;constructor<;>intro hh<;>omega
  ·rw[if_neg e1] at a b;constructor<;>intro hh<;>omega
theorem EI (p:ap) (s:aN) (c:aD) (r:bE) (i:Nat) (h:fp p s c) (hr:il p r) (hk:r.kind=4) (hi:i<c.states.length):ab Tryz.prog 245 [.agg (tF p s c), .agg (iu r), .int .i64 (i:Int)] (fun u=>u= .bool (decide (GZ p c r i))):=by
 have hpe:=NT h hr hk hi
 have f1:((List.range c.states.length).map (wN p.topology c.shape c.states.length)).length=c.states.length:=by simp
 have f2:((List.range c.states.length).map (wO p.topology c.shape c.states.length)).length=c.states.length:=by simp
 have f3:((List.range c.states.length).map (yT p.topology c.shape c.states.length)).length=c.states.length:=by simp
 unfold nF nS nP at hpe
 refine ab.intro ae ag Tryz.func245 rfl (by decide) ?_;(conv=>whnf)
 refine ar rfl ?_
 conv=>whnf
 refine ar rfl ?_
 conv=>whnf
 refine ai ?_ ?_<;>(intro h1;conv=>whnf)
 ·exact⟨bk (hpe.2 (.inl h1)),rfl⟩
 by_cases h2:r.at_=1
 ·by_cases h3:p.topology=4
  ·repeat' ((first|refine nI ?_|refine aI ?_|refine tI ?_|refine fI ?_|fail);conv=>whnf)
   rw[tN,aR _ _ _ hi]
   refine ai ?_ ?_<;>(intro h4;conv=>whnf)
   ·exact⟨bk (hpe.2 (by omega)),rfl⟩
   ·exact⟨aC (fun hh=>by have:=hpe.1 hh;omega),rfl⟩
  ·repeat' ((first|refine nI ?_|refine aI ?_|refine tI ?_|refine fI ?_|fail);conv=>whnf)
   rw[tN,aR _ _ _ hi]
   refine ai ?_ ?_<;>(intro h4;conv=>whnf)
   ·exact⟨bk (hpe.2 (by omega)),rfl⟩
   ·exact⟨aC (fun hh=>by have:=hpe.1 hh;omega),rfl⟩
 ·by_cases h3:p.topology=4
  all_goals
   repeat' ((first|refine nI ?_|refine aI ?_|refine tI ?_|refine fI ?_|fail);conv=>whnf)
   rw[tN,aR _ _ _ hi]
   refine ai ?_ ?_<;>(intro h4;conv=>whnf)
   ·exact⟨bk (hpe.2 (by omega)),rfl⟩
   ·exact⟨aC (fun hh=>by have:=hpe.1 hh;omega),rfl⟩
theorem KS (p:ap) (s:aN) (c:aD) (r:bE) (i:Nat) (j:Int) (hi:i<c.states.length):ab Tryz.prog 242 [.agg (tF p s c), .agg (iu r), .int .i64 (i:Int), .int .i64 j] (fun u=>u= .bool (decide (G0 p c r i j))):=by
 have f1:((List.range c.states.length).map (wN p.topology c.shape c.states.length)).length=c.states.length:=by simp
 have f2:((List.range c.states.length).map (wO p.topology c.shape c.states.length)).length=c.states.length:=by simp
 have f3:((List.range c.states.length).map (yT p.topology c.shape c.states.length)).length=c.states.length:=by simp
 have he:G0 p c r i j=(if r.direction=1 then wO p.topology c.shape c.states.length i=j else if r.direction=2 then wN p.topology c.shape c.states.length i=j else if r.direction=3 then(wN p.topology c.shape c.states.length i=j\/wO p.topology c.shape c.states.length i=j) else yT p.topology c.shape c.states.length i=j):=rfl
 refine ab.intro ae ag Tryz.func242 rfl (by decide) ?_;(conv=>whnf)
 refine ar rfl ?_
 conv=>whnf
 refine ar rfl ?_
 conv=>whnf
 by_cases h1:r.direction=1
 ·rw[if_pos h1] at he
  repeat' ((first|refine nI ?_|refine aI ?_|refine tI ?_|refine fI ?_|fail);conv=>whnf)
  rw[tN,aR _ _ _ hi]
  refine ai ?_ ?_<;>(intro h4;conv=>whnf)
  ·exact⟨bk (by rw[he];exact h4),rfl⟩
  ·exact⟨aC (by rw[he];exact h4),rfl⟩
 rw[if_neg h1] at he
 by_cases h2:r.direction=2
 ·rw[if_pos h2] at he
  repeat' ((first|refine nI ?_|refine aI ?_|refine tI ?_|refine fI ?_|fail);conv=>whnf)
  rw[tN,aR _ _ _ hi]
  refine ai ?_ ?_<;>(intro h4;conv=>whnf)
  ·exact⟨bk (by rw[he];exact h4),rfl⟩
  ·exact⟨aC (by rw[he];exact h4),rfl⟩
 rw[if_neg h2] at he
 by_cases h3:r.direction=3
 ·rw[if_pos h3] at he
  repeat' ((first|refine nI ?_|refine aI ?_|refine tI ?_|refine fI ?_|fail);conv=>whnf)
  rw[tN,aR _ _ _ hi]
  refine ai ?_ ?_<;>(intro h4;conv=>whnf)
  ·exact⟨bk (by rw[he];exact .inl h4),rfl⟩
  refine nI ?_
  rw[tN,aR _ _ _ hi]
  conv=>whnf
  refine ai ?_ ?_<;>(intro h5;conv=>whnf)
  ·exact⟨bk (by rw[he];exact .inr h5),rfl⟩
  ·exact⟨aC (by rw[he];exact fun h=>h.elim h4 h5),rfl⟩
 ·rw[if_neg h3] at he
  repeat' ((first|refine nI ?_|refine aI ?_|refine tI ?_|refine fI ?_|fail);conv=>whnf)
  rw[tN,aR _ _ _ hi]
  refine ai ?_ ?_<;>(intro h4;conv=>whnf)
  ·exact⟨bk (by rw[he];exact h4),rfl⟩
  ·exact⟨aC (by rw[he];exact h4),rfl⟩
end
end Go.Proofs.YtekmminpfhacpaaGreatDoor
