import Derived.Test.YtekmminpfhacpaaGreatDoorM5
set_option linter.unusedVariables false
set_option linter.unusedSimpArgs false
namespace Go.Proofs.YtekmminpfhacpaaGreatDoor
section
set_option maxRecDepth 100000
set_option maxHeartbeats 8000000
def HQ (q:aE) (c:ay):Prop:=∀j,j<q.bad.length->(q.bad.getD j ca).least<=HP (q.bad.getD j ca).states (c.states.take c.correct.toNat)
def GZ (p:an) (q:aE) (c:ay):Prop:=HQ q c/\(q.adjacent.length=0\/GY p c q.adjacent)
noncomputable instance decBad (p:an) (q:aE) (c:ay):Decidable (GZ p q c):=Classical.propDecidable _
def cntS:Sh:=eO (.int .nil)
def cntOf:eC cntS->Ee
 |(a,b,_)=>⟨ip a,b⟩
section
variable {S:ai}
theorem cv_cnt (y:eC cntS):r9 S (bg cntS y) (fH (cntOf y)):=by
 obtain⟨a,b,⟨⟩⟩:=y
 exact⟨Cv.ints a,Cv.refl _ _,trivial⟩
theorem cv_cnts (l:List (eC cntS)):Cv S (.sl (e7 cntS) (bg cntS) l) (.sl ca fH (l.map cntOf)):=
 Cv.sl (d:=e7 cntS) (enc:=bg cntS) ca fH cntOf fun y _=>⟨cv_cnt y,rfl⟩
end
end
section
set_option maxRecDepth 100000
set_option maxHeartbeats 8000000
def HR (p:an) (c:ay):List AV:=[.sl 0 ao ((List.range c.states.length).map (om p.topology c.shape c.states.length)), .sl 0 ao ((List.range c.states.length).map (oo p.topology c.shape c.states.length)), .sl 0 ao ((List.range c.states.length).map (pu p.topology c.shape c.states.length))]
def mV (p:an) (s:aC) (c:ay):List AV:=aB p++(bv s++(bd c++HR p c))
theorem CO (p:an) (s:aC) (c:ay) (hw:bh c=false):ab Tryz.prog 152 [.agg (aB p), .agg (bv s), .agg (bd c)] (fun u=>u= .agg (mV p s c)):=by
 have hc:=br hw
 refine ab.intro ac ae Tryz.func152 rfl (by decide) ?_;(conv=>whnf)
 refine ak rfl ?_
 conv=>whnf
 refine ak rfl ?_
 conv=>whnf
 refine ak rfl ?_
 conv=>whnf
 (refine oP (GL p.topology c.shape c.states.length (by omega) (by omega)) ?_;conv=>whnf)
 exact⟨rfl,rfl⟩
def lz (p:an) (s:aC) (c:ay) (m:Int):Bool->Int
 |false=>c.sent.getD m.toNat 0+(if p.fault=1\/p.fault=2 then c.faulty.getD m.toNat 0 else if p.fault=3 then s.f else 0)
 |true=>c.sent.getD m.toNat 0+(if p.fault=1 then c.faulty.getD m.toNat 0 else 0)
theorem Aa {p:an} {s:aC} {c:ay} {m:Int} (f:Bool) (h1:iy c.sent 1048577) (h2:iy c.faulty 1048577) (hm:0<=m/\m<c.sent.length/\m<c.faulty.length) (hs:0<=s.f/\s.f<=1048576):0<=lz p s c m f/\lz p s c m f<=2097152:=by
 have a1:=h1 m.toNat (by omega)
 have a2:=h2 m.toNat (by omega)
 cases f<;>unfold lz<;>dsimp only<;>(repeat' split)<;>omega
theorem Ab (p:an) (s:aC) (c:ay) (m:Int) (f:Bool) (h1:iy c.sent 1048577) (h2:iy c.faulty 1048577) (hm:0<=m/\m<c.sent.length/\m<c.faulty.length) (hs:0<=s.f/\s.f<=1048576):ab Tryz.prog 279 [.agg (mV p s c), .int .i64 m, .bool f] (fun u=>u= .int .i64 (lz p s c m f)):=by
 have a1:=h1 m.toNat (by omega)
 have a2:=h2 m.toNat (by omega)
 cases f
 all_goals
  refine ab.intro ac ae Tryz.func279 rfl (by decide) ?_;(conv=>whnf)
  refine ak rfl ?_
  conv=>whnf
  refine nI ?_
  conv=>whnf
  repeat' ((first|refine nI ?_|refine aI ?_|refine uI ?_|refine vI ?_|refine dI ?_|refine dR ?_|refine dP ?_|refine ak rfl ?_|refine pI _ rfl ?_|refine ap _ rfl ?_|refine tI ?_|refine fI ?_|refine ag (fun _=>?_) (fun _=>?_))<;>conv=>whnf)
  all_goals
   refine⟨ah ?_,rfl⟩
   unfold lz
   dsimp only
   (repeat' split)<;>omega
theorem E5 (p:an) (s:aC) (c:ay) (m:Int) (f:Bool) (h1:iy c.sent 1048577) (h2:iy c.faulty 1048577) (hm:0<=m/\m<c.sent.length/\m<c.faulty.length) (hs:0<=s.f/\s.f<=1048576):ab Tryz.prog 303 [.agg (aB p), .agg (bv s), .agg (bd c), .int .i64 m, .bool f] (fun u=>u= .int .i64 (lz p s c m f)):=by
 have a1:=h1 m.toNat (by omega)
 have a2:=h2 m.toNat (by omega)
 cases f
 all_goals
  refine ab.intro ac ae Tryz.func303 rfl (by decide) ?_;(conv=>whnf)
  refine ak rfl ?_
  conv=>whnf
  refine ak rfl ?_
  conv=>whnf
  refine ak rfl ?_
  conv=>whnf
  by_cases e1:p.fault=1
  ·repeat' ((first|refine nI ?_|refine aI ?_|refine tI ?_|refine fI ?_|fail);conv=>whnf)
   refine dI ?_
   conv=>whnf
   repeat' ((first|refine nI ?_|refine aI ?_|refine uI ?_|refine vI ?_|refine dI ?_|refine dR ?_|refine dP ?_|refine ak rfl ?_|refine pI _ rfl ?_|refine ap _ rfl ?_|refine tI ?_|refine fI ?_|refine ag (fun _=>?_) (fun _=>?_))<;>conv=>whnf)
   all_goals
    refine⟨ah ?_,rfl⟩
    unfold lz
    dsimp only
    (repeat' split)<;>omega
  by_cases e2:p.fault=2
  ·repeat' ((first|refine nI ?_|refine aI ?_|refine tI ?_|refine fI ?_|fail);conv=>whnf)
   all_goals try(refine dI ?_)
   all_goals
    conv=>whnf
    repeat' ((first|refine nI ?_|refine aI ?_|refine uI ?_|refine vI ?_|refine dI ?_|refine dR ?_|refine dP ?_|refine ak rfl ?_|refine pI _ rfl ?_|refine ap _ rfl ?_|refine tI ?_|refine fI ?_|refine ag (fun _=>?_) (fun _=>?_))<;>conv=>whnf)
   all_goals
    refine⟨ah ?_,rfl⟩
    unfold lz
    dsimp only
    (repeat' split)<;>omega
  by_cases e3:p.fault=3
  ·repeat' ((first|refine nI ?_|refine aI ?_|refine tI ?_|refine fI ?_|fail);conv=>whnf)
   all_goals try(refine dI ?_)
   all_goals
    conv=>whnf
    repeat' ((first|refine nI ?_|refine aI ?_|refine uI ?_|refine vI ?_|refine dI ?_|refine dR ?_|refine dP ?_|refine ak rfl ?_|refine pI _ rfl ?_|refine ap _ rfl ?_|refine tI ?_|refine fI ?_|refine ag (fun _=>?_) (fun _=>?_))<;>conv=>whnf)
   all_goals
    refine⟨ah ?_,rfl⟩
    unfold lz
    dsimp only
    (repeat' split)<;>omega
  ·repeat' ((first|refine nI ?_|refine aI ?_|refine tI ?_|refine fI ?_|fail);conv=>whnf)
   repeat' ((first|refine nI ?_|refine aI ?_|refine uI ?_|refine vI ?_|refine dI ?_|refine dR ?_|refine dP ?_|refine ak rfl ?_|refine pI _ rfl ?_|refine ap _ rfl ?_|refine tI ?_|refine fI ?_|refine ag (fun _=>?_) (fun _=>?_))<;>conv=>whnf)
   all_goals
    refine⟨ah ?_,rfl⟩
    unfold lz
    dsimp only
    (repeat' split)<;>omega
theorem lA {i n:Int} (h:ci i n=0):0<=i/\i<n:=by
 unfold ci at h;split at h<;>omega
theorem jW {m v:Int} (h:fF m v=0):-1<=v/\v<m:=by
 unfold fF at h;split at h<;>omega
theorem G0 {m:Int} {g:dB} (h:gE m g=0):(0<=g.message/\g.message<m)/\(1<=g.coef/\g.coef<=100)/\eD g.bound:=by
 have hz:=bG h
 have h1:=hz (ci g.message m) (by simp)
 have h2:=hz (im g.coef) (by simp)
 have h3:=hz (j9 g.bound) (by simp)
 refine⟨lA h1,?_,?_⟩
 ·unfold im at h2;split at h2<;>omega
 ·unfold j9 at h3;split at h3
  ·assumption
  ·omega
theorem kD {m:Int} {l:List dB} (h:aZ m l=0):∀j,j<l.length->(0<=(l.getD j aA).message/\(l.getD j aA).message<m)/\(1<=(l.getD j aA).coef/\(l.getD j aA).coef<=100)/\eD (l.getD j aA).bound:=by
 intro j hj
 unfold aZ at h
 by_cases h1:cb (l.map (gE m))=0
 ·exact G0 (bG h1 _ (List.mem_map.2 ⟨_,by rw[gD,gL hj];exact List.getElem_mem _,rfl⟩))
 ·rw[if_pos h1] at h;omega
structure fP (p:an) (r:bC):Prop where
 fit:dV r.kind p.topology
 sur:¬gu r p.topology
 src:0<=r.src/\r.src<p.states.length
 dst:0<=r.dst/\r.dst<p.states.length
 kin:cu p r=0
theorem Ac {p:an} {i:Nat} {r:bC} (h:b9 p i r=0):fP p r:=by
 unfold b9 at h
 by_cases h1:¬bU r.name\/fG p.rules i r
 ·rw[if_pos h1] at h;omega
 rw[if_neg h1] at h
 by_cases h2:¬dV r.kind p.topology\/gu r p.topology
 ·rw[if_pos h2] at h;omega
 rw[if_neg h2] at h
 have hz:=bG h
 refine⟨?_,fun hs=>h2 (.inr hs),lA (hz _ (by simp)),lA (hz _ (by simp)),hz _ (by simp)⟩
 by_cases hf:dV r.kind p.topology
 ·exact hf
 ·exact absurd (.inl hf) h2
theorem cG {p:an} (h:aw p=0) {i:Nat} (hi:i<p.rules.length):fP p (p.rules.getD i aq):=by
 unfold aw at h
 have ht:tp p=0:=by
  (repeat' split at h)<;>first|exact h|omega
 have hz:=bG ht (gj p) (by simp)
 refine Ac (i:=i) (bG hz _ (List.mem_map.2 ⟨i,List.mem_range.2 hi,rfl⟩))
structure dk (p:an) (s:aC) (c:ay):Prop where
 big:¬cp p
 wide:bh c=false
 val:aw p=0
 siz:zV s
 sz:(1<=s.n/\s.n<=8)/\(0<=s.f/\s.f<=s.n)
 adm:jA p s
 vc:VC p s c
theorem dk.of {p:an} {s:aC} {c:ay} (hp:¬cp p) (hw:bh c=false) (h:bW p s c=0):dk p s c:=by
 unfold bW at h
 by_cases h1:aJ p s≠0
 ·rw[if_pos h1] at h;omega
 rw[if_neg h1] at h
 have h2:=c8 (p:=p) (s:=s) (by omega)
 refine⟨hp,hw,h2.1,by unfold zV;omega,by omega,h2.2.1,?_⟩
 unfold km at h
 by_cases h3:VC p s c
 ·exact h3
 ·rw[if_neg h3] at h;omega
theorem dk.sent {p:an} {s:aC} {c:ay} (h:dk p s c):iy c.sent 1048577/\iy c.faulty 1048577:=by
 refine⟨h.vc.sen,fun j hj=>?_⟩
 have:=h.vc.fau j hj
 have e:rj p<=1048576:=by unfold rj;split<;>omega
 omega
theorem qm (l:kK) (s:aC) (hl:eD l) (hs:zV s):ab Tryz.prog 149 [.agg (bT l), .agg (bv s)] (fun u=>u= .tup [.int .i64 (lx l s), .int .i64 0]):=by
 have hs':=hs
 unfold zV at hs'
 refine ab.intro ac ae Tryz.func149 rfl (by decide) ?_;(conv=>whnf)
 refine ak rfl ?_
 conv=>whnf
 refine ak rfl ?_
 conv=>whnf
 refine dC (ET l) (fun _=>?_) (fun _=>?_)<;>(conv=>whnf)
 case refine_2=>rename_i h;exact absurd hl h
 refine dC (aL _ _ _) (fun _=>?_) (fun _=>?_)<;>(conv=>whnf)
 case refine_2=>rename_i h;omega
 refine dC (aL _ _ _) (fun _=>?_) (fun _=>?_)<;>(conv=>whnf)
 case refine_2=>rename_i h;omega
 refine dC (aL _ _ _) (fun _=>?_) (fun _=>?_)<;>(conv=>whnf)
 case refine_2=>rename_i h;omega
 (refine oP (zX l s hl hs) ?_;conv=>whnf)
 exact⟨rfl,rfl⟩
def lB (p:an) (s:aC) (c:ay) (f:Bool) (g:dB):Prop:=lx g.bound s<=g.coef*lz p s c g.message f
def rq (p:an) (s:aC) (c:ay) (r:bC) (f:Bool):Prop:=∀j,j<r.guards.length->lB p s c f (r.guards.getD j aA)
noncomputable instance decGrd (p:an) (s:aC) (c:ay) (r:bC) (f:Bool):Decidable (rq p s c r f):=Classical.propDecidable _
theorem Eh {a b:Int} (ha:1<=a/\a<=100) (hb:0<=b/\b<=2097152):0<=a*b/\a*b<=209715200:=by
 have h1:0<=a*b:=Int.mul_nonneg (by omega) hb.1
 have h2:a*b<=100*2097152:=Int.mul_le_mul (by omega) hb.2 hb.1 (by omega)
 omega
theorem CP (p:an) (s:aC) (c:ay) (r:bC) (f:Bool) (h:dk p s c) (hr:¬lp r) (hg:aZ p.messages.length r.guards=0):ab Tryz.prog 243 [.agg (mV p s c), .agg (ee r), .bool f] (fun u=>u= .bool (decide (rq p s c r f))):=by
 have hle:=aO h.big
 have hbr:=dh hr
 have hgs:=kD hg
 have hsn:=h.vc.snl
 have hfa:=h.vc.fal
 have hz:=h.siz
 unfold zV at hz
 refine ab.intro ac ae Tryz.func243 rfl (by decide) ?_;(conv=>whnf)
 refine ak rfl ?_
 conv=>whnf
 refine ak rfl ?_
 conv=>whnf
 refine aF.loopF ac ae (fun k:Nat=>k<=r.guards.length/\∀j,j<k->lB p s c f (r.guards.getD j aA)) (fun k=>[(14, .int .i64 (k:Int))]) (fun _=>[]) (fun k=>r.guards.length-k) 0 ⟨by omega,fun j hj=>by omega⟩ ?_;conv=>whnf
 refine⟨sI,?_⟩
 rintro k ⟨hk,ha⟩
 conv=>whnf
 refine ag ?_ ?_<;>(intro h1;conv=>whnf)
 ·obtain⟨g1,g2,g3⟩:=hgs k (by omega)
  have nok:¬lB p s c f (r.guards.getD k aA)->¬rq p s c r f:=fun hn hb=>hn (hb k (by omega))
  have next:lB p s c f (r.guards.getD k aA)->∀j,j<k+1->lB p s c f (r.guards.getD j aA):=fun hn j hj=>by
   by_cases e:j=k
   ·subst e;exact hn
   ·exact ha j (by omega)
  refine nI ?_
  rw[tN]
  generalize r.guards.getD k aA=g at g1 g2 g3 nok next
  have hb:=Aa (p:=p) (s:=s) (c:=c) (m:=g.message) f h.sent.1 h.sent.2 (by omega) (by omega)
  have hm:=Eh g2 hb
  conv=>whnf
  (refine oP (qj g.bound s g3 h.siz) ?_;conv=>whnf)
  refine dI ?_
  conv=>whnf
  (refine oC (Ab p s c g.message f h.sent.1 h.sent.2 (by omega) (by omega)) ?_;conv=>whnf)
  repeat' ((first|refine nI ?_|refine aI ?_|refine tI ?_|refine fI ?_|fail);conv=>whnf)
  refine ag ?_ ?_<;>(intro h2;conv=>whnf)
  ·exact⟨al (nok (by unfold lB;omega)),rfl⟩
  ·repeat' ((first|refine nI ?_|refine aI ?_|refine tI ?_|refine fI ?_|fail);conv=>whnf)
   exact⟨k+1,sI,⟨by omega,next (by unfold lB;omega)⟩,by dsimp only;omega⟩
 ·exact⟨av (fun j hj=>ha j (by omega)),rfl⟩
def Ad (c:ay) (l:List Int) (i:Int) (k:Nat):Prop:=l.length=0\/∃j,j<k/\(j:Int)≠i/\c.states.getD j 0∈l
def yA (c:ay) (l:List Int) (i:Int) (k:Nat):Prop:=l.length=0\/∀j,j<k->(j:Int)≠i->c.states.getD j 0∈l
def u6 (c:ay) (r:bC) (i:Int):Prop:=Ad c r.some_ i c.states.length/\yA c r.forall_ i c.states.length
noncomputable instance decOth (c:ay) (r:bC) (i:Int):Decidable (u6 c r i):=Classical.propDecidable _
section
variable {c:ay} {l:List Int} {i:Int} {k:Nat}
theorem tC:Ad c l i 0↔l.length=0:=⟨fun h=>h.elim id (fun⟨j,hj,_⟩=>by omega), .inl⟩
theorem tD:yA c l i 0:=.inr fun j hj=>by omega
theorem oB (h:(k:Int)=i):Ad c l i (k+1)↔Ad c l i k:=
 ⟨fun h1=>h1.elim .inl (fun⟨j,hj,hn,hm⟩=>.inr ⟨j,by omega,hn,hm⟩),fun h1=>h1.elim .inl (fun⟨j,hj,hn,hm⟩=>.inr ⟨j,by omega,hn,hm⟩)⟩
theorem oD (h:(k:Int)=i):yA c l i (k+1)↔yA c l i k:=
 ⟨fun h1=>h1.elim .inl (fun h2=>.inr fun j hj hn=>h2 j (by omega) hn),fun h1=>h1.elim .inl (fun h2=>.inr fun j hj hn=>h2 j (by omega) hn)⟩
theorem rr (h:Ad c l i k):Ad c l i (k+1):=h.elim .inl (fun⟨j,hj,hn,hm⟩=>.inr ⟨j,by omega,hn,hm⟩)
theorem rz (h:(k:Int)≠i) (hm:c.states.getD k 0∈l):Ad c l i (k+1):=.inr ⟨k,by omega,h,hm⟩
theorem u7 (h:¬Ad c l i k) (hm:c.states.getD k 0∉l):¬Ad c l i (k+1):=fun h1=>h1.elim (fun e=>h (.inl e)) (fun⟨j,hj,hn,hmm⟩=>by
 by_cases e:j=k
 ·subst e;exact hm hmm
 ·exact h (.inr ⟨j,by omega,hn,hmm⟩))
theorem CQ (h:¬yA c l i k):¬yA c l i (k+1):=fun h1=>h (h1.elim .inl (fun h2=>.inr fun j hj hn=>h2 j (by omega) hn))
theorem m9 (h:l.length=0):yA c l i k:=.inl h
theorem na (h:yA c l i k) (hm:c.states.getD k 0∈l):yA c l i (k+1):=h.elim .inl (fun h2=>.inr fun j hj hn=>by
 by_cases e:j=k
 ·subst e;exact hm
 ·exact h2 j (by omega) hn)
theorem E6 (h0:¬l.length=0) (h:(k:Int)≠i) (hm:c.states.getD k 0∉l):¬yA c l i (k+1):=fun h1=>h1.elim h0 (fun h2=>hm (h2 k (by omega) h))
end
theorem mw {p:Prop} (h:p):(true=true↔p):=⟨fun _=>h,fun _=>rfl⟩
theorem rA {p:Prop} (h:¬p):(false=true↔p):=⟨fun e=>(by cases e),fun e=>absurd e h⟩
theorem mW {p:Prop} (h:false=true↔p):¬p:=fun hp=>by have:=h.2 hp;cases this
theorem CS (p:an) (s:aC) (c:ay) (r:bC) (i:Int) (hw:bh c=false) (hr:¬lp r):ab Tryz.prog 244 [.agg (mV p s c), .agg (ee r), .int .i64 i] (fun u=>u= .bool (decide (u6 c r i))):=by
 have hbr:=dh hr
 have hc:=br hw
 refine ab.intro ac ae Tryz.func244 rfl (by decide) ?_;(conv=>whnf)
 refine ak rfl ?_
 conv=>whnf
 refine ak rfl ?_
 conv=>whnf
 refine Gq ?_
 conv=>whnf
 refine aF.loopF ac ae (fun x:Nat×Bool×Bool=>x.1<=c.states.length/\(x.2.1=true↔Ad c r.some_ i x.1)/\(x.2.2=true↔yA c r.forall_ i x.1)) (fun x=>[(19, .int .i64 (x.1:Int)),(7, .bool x.2.1),(8, .bool x.2.2)]) (fun _=>[]) (fun x=>c.states.length-x.1) (0,decide ((r.some_.length:Int)=0),true) ⟨Nat.zero_le _,by rw[tC,decide_eq_true_iff];omega,mw tD⟩ ?_;conv=>whnf
 refine⟨sI,?_⟩
 rintro⟨k,e,a⟩ ⟨hk,he,ha⟩
 dsimp only at hk he ha⊢
 cases e<;>cases a
 all_goals
  conv=>whnf
  refine ag ?_ ?_<;>(intro h1;conv=>whnf)
 case' false.false.refine_2=>exact⟨al (fun hh=>mW he (by rw[show k=c.states.length by omega];exact hh.1)),rfl⟩
 case' false.true.refine_2=>exact⟨al (fun hh=>mW he (by rw[show k=c.states.length by omega];exact hh.1)),rfl⟩
 case' true.false.refine_2=>exact⟨al (fun hh=>mW ha (by rw[show k=c.states.length by omega];exact hh.2)),rfl⟩
 case' true.true.refine_2=>exact⟨av ⟨by have:=he.1 rfl;rwa [show k=c.states.length by omega] at this,by have:=ha.1 rfl;rwa [show k=c.states.length by omega] at this⟩,rfl⟩
 all_goals
  refine nI ?_
  rw[tN]
  conv=>whnf
  refine ag ?_ ?_<;>(intro h2;conv=>whnf)
  case refine_1=>
   repeat' ((first|refine nI ?_|refine aI ?_|refine tI ?_|refine fI ?_|fail);conv=>whnf)
   exact⟨(k+1,_,_),sI,⟨by dsimp only;omega,he.trans (oB h2).symm,ha.trans (oD h2).symm⟩,by dsimp only;omega⟩
 case' false.false.refine_1=>
  refine dC (bo r.some_ _ (by omega)) (fun _=>?_) (fun _=>?_)<;>(conv=>whnf)
  case' refine_1=>have hE:=mw (rz h2 (by assumption))
  case' refine_2=>have hE:=rA (u7 (mW he) (by assumption))
 case' false.true.refine_1=>
  refine dC (bo r.some_ _ (by omega)) (fun _=>?_) (fun _=>?_)<;>(conv=>whnf)
  case' refine_1=>have hE:=mw (rz h2 (by assumption))
  case' refine_2=>have hE:=rA (u7 (mW he) (by assumption))
 case' true.false.refine_1=>have hE:=mw (rr (he.1 rfl))
 case' true.true.refine_1=>have hE:=mw (rr (he.1 rfl))
 all_goals first
  |(refine ag ?_ ?_<;>(intro h3;conv=>whnf)
    ·repeat' ((first|refine nI ?_|refine aI ?_|refine tI ?_|refine fI ?_|fail);conv=>whnf)
     exact⟨(k+1,_,_),sI,⟨by dsimp only;omega,hE,mw (m9 (by omega))⟩,by dsimp only;omega⟩
    ·refine dC (bo r.forall_ _ (by omega)) (fun _=>?_) (fun _=>?_)<;>(conv=>whnf)
     ·rename_i h4
      repeat' ((first|refine nI ?_|refine aI ?_|refine tI ?_|refine fI ?_|fail);conv=>whnf)
      exact⟨(k+1,_,_),sI,⟨by dsimp only;omega,hE,mw (na (ha.1 rfl) h4)⟩,by dsimp only;omega⟩
     ·rename_i h4
      repeat' ((first|refine nI ?_|refine aI ?_|refine tI ?_|refine fI ?_|fail);conv=>whnf)
      exact⟨(k+1,_,_),sI,⟨by dsimp only;omega,hE,rA (E6 (by omega) h2 h4)⟩,by dsimp only;omega⟩)
  |(skip
    repeat' ((first|refine nI ?_|refine aI ?_|refine tI ?_|refine fI ?_|fail);conv=>whnf)
    exact⟨(k+1,_,_),sI,⟨by dsimp only;omega,hE,rA (CQ (mW ha))⟩,by dsimp only;omega⟩)
def xN (c:ay) (l:List Int) (x:Int):Prop:=l.length=0\/(0<=x/\c.states.getD x.toNat 0∈l)
noncomputable instance decDem (c:ay) (l:List Int) (x:Int):Decidable (xN c l x):=Classical.propDecidable _
theorem Ae (p:an) (s:aC) (c:ay) (l:List Int) (x:Int) (hl:l.length<=60) (hx:x<c.states.length) (hw:bh c=false):ab Tryz.prog 246 [.agg (mV p s c), .sl 0 ao l, .int .i64 x] (fun u=>u= .bool (decide (xN c l x))):=by
 have hc:=br hw
 refine ab.intro ac ae Tryz.func246 rfl (by decide) ?_;(conv=>whnf)
 refine ak rfl ?_
 conv=>whnf
 refine ag ?_ ?_<;>(intro h1;conv=>whnf)
 ·exact⟨av (.inl (by omega)),rfl⟩
 refine ag ?_ ?_<;>(intro h2;conv=>whnf)
 ·refine nI ?_
  conv=>whnf
  refine dC (bo l _ (by omega)) (fun _=>?_) (fun _=>?_)<;>(conv=>whnf)
  ·rename_i h3;exact⟨av (.inr ⟨h2,h3⟩),rfl⟩
  ·rename_i h3;exact⟨al (fun h=>h.elim (by omega) (fun h=>h3 h.2)),rfl⟩
 ·exact⟨al (fun h=>h.elim (by omega) (fun h=>h2 h.1)),rfl⟩
theorem oE (c:ay) (l:List Int) (x:Int) (hl:l.length<=60) (hx:x<c.states.length) (hw:bh c=false):ab Tryz.prog 282 [.agg (bd c), .sl 0 ao l, .int .i64 x] (fun u=>u= .bool (decide (xN c l x))):=by
 have hc:=br hw
 refine ab.intro ac ae Tryz.func282 rfl (by decide) ?_;(conv=>whnf)
 refine ak rfl ?_
 conv=>whnf
 refine ag ?_ ?_<;>(intro h1;conv=>whnf)
 ·exact⟨av (.inl (by omega)),rfl⟩
 refine ag ?_ ?_<;>(intro h2;conv=>whnf)
 ·refine nI ?_
  conv=>whnf
  refine dC (u4 l _ (by omega)) (fun _=>?_) (fun _=>?_)<;>(conv=>whnf)
  ·rename_i h3;exact⟨av (.inr ⟨h2,h3⟩),rfl⟩
  ·rename_i h3;exact⟨al (fun h=>h.elim (by omega) (fun h=>h3 h.2)),rfl⟩
 ·exact⟨al (fun h=>h.elim (by omega) (fun h=>h2 h.1)),rfl⟩
end
section
theorem shp.leaf {l:List Int} (h:shp l) {i:Nat} (hi:i<l.length) (h0:l.getD i 0=0):bc l i=i+1:=by
 obtain⟨e,h3,h4⟩:=h.at hi
 rw[fc hi,b7 0,if_pos h0,dS,Option.some.injEq] at e
 have:=congrArg List.length e
 simp only[List.length_drop] at this
 omega
theorem shp.root {l:List Int} (h:shp l) (hl:0<l.length):bc l 0=l.length:=by
 obtain⟨e,h3,h4⟩:=h.at hl
 rw[List.drop_zero,show bB 1 l=some [] from h,Option.some.injEq] at e
 have:=congrArg List.length e
 simp only[List.length_drop,List.length_nil] at this
 omega
theorem shp.parAll {l:List Int} (h:shp l):∀i,i<l.length->(0<i->0<=bS l i/\bS l i<i)/\(bc l i<l.length->0<=bS l (bc l i)/\bS l (bc l i)<i):=by
 intro i
 induction i using Nat.strongRecOn with
 |_ i ih=>
  intro hi
  have one:0<i->0<=bS l i/\bS l i<i:=by
   intro h0
   obtain⟨j,rfl⟩:∃j,i=j+1:=⟨i-1,by omega⟩
   rcases h.zeroTwo (i:=j) (by omega) with h2|h2
   ·have e:=h.leaf (by omega) h2
    have:=(ih j (by omega) (by omega)).2 (by omega)
    rw[e] at this
    omega
   ·have:=pt h (i:=j) (by omega) h2
    omega
  refine⟨one,fun he=>?_⟩
  by_cases h0:i=0
  ·subst h0
   have:=h.root (by omega)
   omega
  ·obtain⟨a,b⟩:=one (by omega)
   rcases oh l i i with hc|⟨k,hk,hc,hp⟩
   ·unfold bS at a;omega
   ·simp only[cA,Bool.and_eq_true,Bool.or_eq_true,decide_eq_true_eq] at hp
    obtain⟨h2,hp⟩:=hp
    have ht:=h.two (i:=k) (by omega) h2
    rcases hp with hp|hp
    ·have:=oi h (i:=k) (by omega) h2
     rw[hp] at this
     omega
    ·rw[hp] at ht
     have:=(ih k hk (by omega)).2 (by omega)
     rw[<-ht.2.2.2.1] at this
     omega
theorem rB (l:List Int):bS l 0=-1:=rfl
theorem Ei {t:Int} {l:List Int} {n i:Nat} (hi:i<n):-1<=pu t l n i/\pu t l n i<n:=by
 unfold pu
 by_cases h:t=4/\ol t l n=true
 ·rw[if_pos h]
  unfold bS
  rcases oh l i i with hc|⟨k,hk,hc,_⟩<;>omega
 ·rw[if_neg h];omega
theorem E7 {t:Int} {l:List Int} {n:Nat} (h:t=4) (hs:shp l) (hl:l.length=n):ol t l n=true:=by
 unfold ol;rw[decide_eq_true_iff];exact fun _=>⟨hs,hl⟩
set_option maxRecDepth 100000
set_option maxHeartbeats 8000000
structure cj where
 rule:Int
 process:Int
 partner:Int
def ef (x:cj):List AV:=[.int .i64 x.rule, .int .i64 x.process, .int .i64 x.partner]
def cH:cj:=⟨0,0,0⟩
def nF (p:an) (c:ay) (i:Nat):Int:=om p.topology c.shape c.states.length i
def nS (p:an) (c:ay) (i:Nat):Int:=oo p.topology c.shape c.states.length i
def nP (p:an) (c:ay) (i:Nat):Int:=pu p.topology c.shape c.states.length i
def xO (p:an) (c:ay) (r:bC) (i:Nat):Prop:=(r.at_=1->i=0)/\(r.at_=2->(p.topology=2->nS p c i=-1)/\(p.topology=4->nF p c i=-1))
noncomputable instance decPos (p:an) (c:ay) (r:bC) (i:Nat):Decidable (xO p c r i):=Classical.propDecidable _
def rC (p:an) (c:ay) (r:bC) (i:Nat) (j:Int):Prop:=if r.direction=1 then nS p c i=j else if r.direction=2 then nF p c i=j else if r.direction=3 then(nF p c i=j\/nS p c i=j) else nP p c i=j
noncomputable instance decPas (p:an) (c:ay) (r:bC) (i:Nat) (j:Int):Decidable (rC p c r i j):=Classical.propDecidable _
def Af (c:ay) (r:bC) (x:cj):Prop:=0<=x.partner/\x.partner<c.states.length/\x.partner≠x.process/\c.states.getD x.partner.toNat 0=r.pfrom
def E8 (p:an) (c:ay) (r:bC) (i:Nat):Prop:=xO p c r i/\xN c r.left (nF p c i)/\xN c r.right (nS p c i)/\xN c r.parent (nP p c i)
def pz (p:an) (s:aC) (c:ay) (r:bC) (x:cj) (f:Bool):Prop:=
 if r.kind=2\/r.kind=5 then Af c r x/\(r.kind=2\/rC p c r x.process.toNat x.partner)
 else x.partner=-1/\(if r.kind=1 then rq p s c r f/\u6 c r x.process else if r.kind=3 then True else E8 p c r x.process.toNat)
def G1 (p:an) (s:aC) (c:ay) (r:bC) (x:cj) (f:Bool):Prop:=c.states.getD x.process.toNat 0=r.src/\(r.read=-1\/c.value=r.read)/\pz p s c r x f
def iZ (p:an) (s:aC) (c:ay) (x:cj) (f:Bool):Prop:=((0<=x.rule/\x.rule<p.rules.length)/\(0<=x.process/\x.process<c.states.length))/\G1 p s c (p.rules.getD x.rule.toNat aq) x f
noncomputable instance decEn (p:an) (s:aC) (c:ay) (x:cj) (f:Bool):Decidable (iZ p s c x f):=Classical.propDecidable _
theorem u9 {p:an} (h:aw p=0):1<=p.topology/\p.topology<=4:=by
 unfold aw at h
 by_cases h1:¬bU p.name
 ·rw[if_pos h1] at h;omega
 rw[if_neg h1] at h
 by_cases h2:p.topology<1\/4<p.topology\/p.fault<0\/3<p.fault
 ·rw[if_pos h2] at h;omega
 ·omega
theorem vb {p:an} (h:aw p=0) (ht:p.topology≠1):p.messages.length=0/\p.values.length=0/\p.resilience.length=0/\p.fault=0:=by
 unfold aw at h
 (repeat' split at h)<;>omega
theorem fP.read {p:an} {r:bC} (h:fP p r):-1<=r.read/\-1<=r.write/\r.read<p.values.length/\r.write<p.values.length:=by
 have hk:=h.kin
 have hs:=h.sur
 have hf:=h.fit
 unfold dV at hf
 unfold cu at hk
 by_cases k1:r.kind=1
 ·rw[if_pos k1] at hk
  have hz:=bG hk
  have a:=jW (hz (fF p.values.length r.read) (by simp))
  have b:=jW (hz (fF p.values.length r.write) (by simp))
  omega
 rw[if_neg k1] at hk
 by_cases k2:r.kind=2
 ·rw[if_pos k2] at hk
  have hz:=bG hk
  have a:=jW (hz (fF p.values.length r.read) (by simp))
  have b:=jW (hz (fF p.values.length r.write) (by simp))
  omega
 rw[if_neg k2] at hk
 by_cases k3:r.kind=3
 ·rw[if_pos k3] at hk
  have hz:=bG hk
  have a:=jW (hz (fF p.values.length r.read) (by simp))
  have b:=jW (hz (fF p.values.length r.write) (by simp))
  omega
 ·unfold gu at hs
  omega
theorem fP.guards {p:an} {r:bC} (h:fP p r) (hk:r.kind=1):aZ p.messages.length r.guards=0:=by
 have:=h.kin
 unfold cu at this
 rw[if_pos hk] at this
 exact bG this _ (by simp)
theorem fP.at4 {p:an} {r:bC} (h:fP p r) (hk:r.kind=4):zT r.at_ p.topology=0:=by
 have:=h.kin
 unfold cu at this
 rw[if_neg (by omega),if_neg (by omega),if_neg (by omega),if_pos hk] at this
 exact bG this _ (by simp)
theorem E9 {p:an} {s:aC} {c:ay} {r:bC} {i:Nat} (h:dk p s c) (hr:fP p r) (hk:r.kind=4) (hi:i<c.states.length):
  xO p c r i↔(r.at_=0\/(r.at_=1/\p.topology=4/\nP p c i<0)\/(r.at_=1/\p.topology≠4/\nF p c i<0)\/(r.at_≠0/\r.at_≠1/\nS p c i<0)):=by
 have hat:=hr.at4 hk
 have ht:=u9 h.val
 have hf:=hr.fit
 unfold dV at hf
 unfold zT at hat
 have hat2:(r.at_=0\/r.at_=1\/r.at_=2)/\(r.at_≠0->p.topology≠3):=by
  split at hat<;>omega
 have htop:p.topology=2\/p.topology=3\/p.topology=4:=by omega
 have lin:p.topology=2->nF p c i=(i:Int)-1/\nS p c i=if i+1=c.states.length then -1 else(i:Int)+1:=fun e=>by
  unfold nF nS om oo
  rw[if_pos e,if_pos e]
  exact⟨rfl,rfl⟩
 have tre:p.topology=4->nF p c i=gY c.shape i/\nS p c i=fj c.shape i/\nP p c i=bS c.shape i/\(i=0↔bS c.shape i<0):=fun e=>by
  obtain⟨e1,e2⟩:=h.vc.tre e
  have e3:=h.vc.len
  have hlen:c.shape.length=c.states.length:=by
   unfold io at e3
   have:=vb h.val (by omega)
   rw[if_neg (by omega)] at e3
   omega
  have hl:=E7 e e2 hlen
  unfold nF nS nP om oo pu
  rw[if_neg (by omega),if_neg (by omega),if_pos ⟨e,hl⟩,if_neg (by omega),if_neg (by omega),if_pos ⟨e,hl⟩,if_pos ⟨e,hl⟩]
  refine⟨rfl,rfl,rfl,?_⟩
  constructor
  ·intro e0;subst e0;rw[rB];omega
  ·intro hlt
   by_cases e0:i=0
   ·exact e0
   ·have:=(e2.parAll i (by omega)).1 (by omega)
    omega
 unfold xO
 rcases htop with e|e|e
 ·obtain⟨a,b⟩:=lin e
  by_cases e1:i+1=c.states.length
  ·rw[if_pos e1] at b;constructor<;>intro hh<;>omega
  ·rw[if_neg e1] at b;constructor<;>intro hh<;>omega
 ·constructor<;>intro hh<;>omega
 ·obtain⟨a,b,d,g⟩:=tre e
  unfold gY at a
  unfold fj at b
  by_cases e1:c.shape.getD i 0=2
  ·rw[if_pos e1] at a b;constructor<;>intro hh<;>omega
  ·rw[if_neg e1] at a b;constructor<;>intro hh<;>omega
theorem xP (p:an) (s:aC) (c:ay) (r:bC) (i:Nat) (h:dk p s c) (hr:fP p r) (hk:r.kind=4) (hi:i<c.states.length):ab Tryz.prog 245 [.agg (mV p s c), .agg (ee r), .int .i64 (i:Int)] (fun u=>u= .bool (decide (xO p c r i))):=by
 have hpe:=E9 h hr hk hi
 have f1:((List.range c.states.length).map (om p.topology c.shape c.states.length)).length=c.states.length:=by simp
 have f2:((List.range c.states.length).map (oo p.topology c.shape c.states.length)).length=c.states.length:=by simp
 have f3:((List.range c.states.length).map (pu p.topology c.shape c.states.length)).length=c.states.length:=by simp
 unfold nF nS nP at hpe
 refine ab.intro ac ae Tryz.func245 rfl (by decide) ?_;(conv=>whnf)
 refine ak rfl ?_
 conv=>whnf
 refine ak rfl ?_
 conv=>whnf
 refine ag ?_ ?_<;>(intro h1;conv=>whnf)
 ·exact⟨av (hpe.2 (.inl h1)),rfl⟩
 by_cases h2:r.at_=1
 ·by_cases h3:p.topology=4
  ·repeat' ((first|refine nI ?_|refine aI ?_|refine tI ?_|refine fI ?_|fail);conv=>whnf)
   rw[tN,aH _ _ _ hi]
   refine ag ?_ ?_<;>(intro h4;conv=>whnf)
   ·exact⟨av (hpe.2 (by omega)),rfl⟩
   ·exact⟨al (fun hh=>by have:=hpe.1 hh;omega),rfl⟩
  ·repeat' ((first|refine nI ?_|refine aI ?_|refine tI ?_|refine fI ?_|fail);conv=>whnf)
   rw[tN,aH _ _ _ hi]
   refine ag ?_ ?_<;>(intro h4;conv=>whnf)
   ·exact⟨av (hpe.2 (by omega)),rfl⟩
   ·exact⟨al (fun hh=>by have:=hpe.1 hh;omega),rfl⟩
 ·by_cases h3:p.topology=4
  all_goals
   repeat' ((first|refine nI ?_|refine aI ?_|refine tI ?_|refine fI ?_|fail);conv=>whnf)
   rw[tN,aH _ _ _ hi]
   refine ag ?_ ?_<;>(intro h4;conv=>whnf)
   ·exact⟨av (hpe.2 (by omega)),rfl⟩
   ·exact⟨al (fun hh=>by have:=hpe.1 hh;omega),rfl⟩
theorem CT (p:an) (s:aC) (c:ay) (r:bC) (i:Nat) (j:Int) (hi:i<c.states.length):ab Tryz.prog 242 [.agg (mV p s c), .agg (ee r), .int .i64 (i:Int), .int .i64 j] (fun u=>u= .bool (decide (rC p c r i j))):=by
 have f1:((List.range c.states.length).map (om p.topology c.shape c.states.length)).length=c.states.length:=by simp
 have f2:((List.range c.states.length).map (oo p.topology c.shape c.states.length)).length=c.states.length:=by simp
 have f3:((List.range c.states.length).map (pu p.topology c.shape c.states.length)).length=c.states.length:=by simp
 have he:rC p c r i j=(if r.direction=1 then oo p.topology c.shape c.states.length i=j else if r.direction=2 then om p.topology c.shape c.states.length i=j else if r.direction=3 then(om p.topology c.shape c.states.length i=j\/oo p.topology c.shape c.states.length i=j) else pu p.topology c.shape c.states.length i=j):=rfl
 refine ab.intro ac ae Tryz.func242 rfl (by decide) ?_;(conv=>whnf)
 refine ak rfl ?_
 conv=>whnf
 refine ak rfl ?_
 conv=>whnf
 by_cases h1:r.direction=1
 ·rw[if_pos h1] at he
  repeat' ((first|refine nI ?_|refine aI ?_|refine tI ?_|refine fI ?_|fail);conv=>whnf)
  rw[tN,aH _ _ _ hi]
  refine ag ?_ ?_<;>(intro h4;conv=>whnf)
  ·exact⟨av (by rw[he];exact h4),rfl⟩
  ·exact⟨al (by rw[he];exact h4),rfl⟩
 rw[if_neg h1] at he
 by_cases h2:r.direction=2
 ·rw[if_pos h2] at he
  repeat' ((first|refine nI ?_|refine aI ?_|refine tI ?_|refine fI ?_|fail);conv=>whnf)
  rw[tN,aH _ _ _ hi]
  refine ag ?_ ?_<;>(intro h4;conv=>whnf)
  ·exact⟨av (by rw[he];exact h4),rfl⟩
  ·exact⟨al (by rw[he];exact h4),rfl⟩
 rw[if_neg h2] at he
 by_cases h3:r.direction=3
 ·rw[if_pos h3] at he
  repeat' ((first|refine nI ?_|refine aI ?_|refine tI ?_|refine fI ?_|fail);conv=>whnf)
  rw[tN,aH _ _ _ hi]
  refine ag ?_ ?_<;>(intro h4;conv=>whnf)
  ·exact⟨av (by rw[he];exact .inl h4),rfl⟩
  refine nI ?_
  rw[tN,aH _ _ _ hi]
  conv=>whnf
  refine ag ?_ ?_<;>(intro h5;conv=>whnf)
  ·exact⟨av (by rw[he];exact .inr h5),rfl⟩
  ·exact⟨al (by rw[he];exact fun h=>h.elim h4 h5),rfl⟩
 ·rw[if_neg h3] at he
  repeat' ((first|refine nI ?_|refine aI ?_|refine tI ?_|refine fI ?_|fail);conv=>whnf)
  rw[tN,aH _ _ _ hi]
  refine ag ?_ ?_<;>(intro h4;conv=>whnf)
  ·exact⟨av (by rw[he];exact h4),rfl⟩
  ·exact⟨al (by rw[he];exact h4),rfl⟩
end
end Go.Proofs.YtekmminpfhacpaaGreatDoor
