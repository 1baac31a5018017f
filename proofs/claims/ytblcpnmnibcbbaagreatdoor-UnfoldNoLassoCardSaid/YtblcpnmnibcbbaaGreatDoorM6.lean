import Derived.Test.YtblcpnmnibcbbaaGreatDoorM5
set_option linter.unusedVariables false
set_option linter.unusedSimpArgs false
namespace Go.Proofs.YtblcpnmnibcbbaaGreatDoor
section
set_option maxRecDepth 100000
set_option maxHeartbeats 8000000
def HK (q:bO) (c:ap):Prop:=∀j,j<q.bad.length->(q.bad.getD j i0).least<=BM (q.bad.getD j i0).states (c.states.take c.correct.toNat)
def qQ (p:aq) (q:bO) (c:ap):Prop:=HK q c/\(q.adjacent.length=0\/F5 p c q.adjacent)
noncomputable instance decBad (p:aq) (q:bO) (c:ap):Decidable (qQ p q c):=Classical.propDecidable _
section
variable {S:ae}
end
end
section
set_option maxRecDepth 100000
set_option maxHeartbeats 8000000
def IY (p:aq) (c:ap):List AV:=[.sl 0 aD ((List.range c.states.length).map (pJ p.topology c.shape c.states.length)), .sl 0 aD ((List.range c.states.length).map (oz p.topology c.shape c.states.length)), .sl 0 aD ((List.range c.states.length).map (qM p.topology c.shape c.states.length))]
def gV (p:aq) (s:aB) (c:ap):List AV:=bc p++(bW s++(aY c++IY p c))
theorem F6 (p:aq) (s:aB) (c:ap) (hw:aX c=false):aa Tryz.prog 80 [.agg (bc p), .agg (bW s), .agg (aY c)] (fun u=>u= .agg (gV p s c)):=by
 have hc:=aG hw
 refine aa.intro ab ac Tryz.func80 rfl (by decide) ?_;(conv=>whnf)
 refine am rfl ?_
 conv=>whnf
 refine am rfl ?_
 conv=>whnf
 refine am rfl ?_
 conv=>whnf
 (refine oP (Hx p.topology c.shape c.states.length (by omega) (by omega)) ?_;conv=>whnf)
 exact⟨rfl,rfl⟩
def pY (p:aq) (s:aB) (c:ap) (m:Int):Bool->Int
 |false=>c.sent.getD m.toNat 0+(if p.fault=1\/p.fault=2 then c.faulty.getD m.toNat 0 else if p.fault=3 then s.f else 0)
 |true=>c.sent.getD m.toNat 0+(if p.fault=1 then c.faulty.getD m.toNat 0 else 0)
theorem BO {p:aq} {s:aB} {c:ap} {m:Int} (f:Bool) (h1:jT c.sent 1048577) (h2:jT c.faulty 1048577) (hm:0<=m/\m<c.sent.length/\m<c.faulty.length) (hs:0<=s.f/\s.f<=1048576):0<=pY p s c m f/\pY p s c m f<=2097152:=by
 have a1:=h1 m.toNat (by omega)
 have a2:=h2 m.toNat (by omega)
 cases f<;>unfold pY<;>dsimp only<;>(repeat' split)<;>omega
theorem BP (p:aq) (s:aB) (c:ap) (m:Int) (f:Bool) (h1:jT c.sent 1048577) (h2:jT c.faulty 1048577) (hm:0<=m/\m<c.sent.length/\m<c.faulty.length) (hs:0<=s.f/\s.f<=1048576):aa Tryz.prog 156 [.agg (gV p s c), .int .i64 m, .bool f] (fun u=>u= .int .i64 (pY p s c m f)):=by
 have a1:=h1 m.toNat (by omega)
 have a2:=h2 m.toNat (by omega)
 cases f
 all_goals
  refine aa.intro ab ac Tryz.func156 rfl (by decide) ?_;(conv=>whnf)
  refine am rfl ?_
  conv=>whnf
  refine nI ?_
  conv=>whnf
  repeat' ((first|refine nI ?_|refine aI ?_|refine uI ?_|refine vI ?_|refine dI ?_|refine dR ?_|refine dP ?_|refine am rfl ?_|refine pI _ rfl ?_|refine ak _ rfl ?_|refine tI ?_|refine fI ?_|refine ag (fun _=>?_) (fun _=>?_))<;>conv=>whnf)
  all_goals
   refine⟨aj ?_,rfl⟩
   unfold pY
   dsimp only
   (repeat' split)<;>omega
theorem F7 (p:aq) (s:aB) (c:ap) (m:Int) (f:Bool) (h1:jT c.sent 1048577) (h2:jT c.faulty 1048577) (hm:0<=m/\m<c.sent.length/\m<c.faulty.length) (hs:0<=s.f/\s.f<=1048576):aa Tryz.prog 152 [.agg (bc p), .agg (bW s), .agg (aY c), .int .i64 m, .bool f] (fun u=>u= .int .i64 (pY p s c m f)):=by
 have a1:=h1 m.toNat (by omega)
 have a2:=h2 m.toNat (by omega)
 cases f
 all_goals
  refine aa.intro ab ac Tryz.func152 rfl (by decide) ?_;(conv=>whnf)
  refine am rfl ?_
  conv=>whnf
  refine am rfl ?_
  conv=>whnf
  refine am rfl ?_
  conv=>whnf
  by_cases e1:p.fault=1
  ·repeat' ((first|refine nI ?_|refine aI ?_|refine tI ?_|refine fI ?_|fail);conv=>whnf)
   refine dI ?_
   conv=>whnf
   repeat' ((first|refine nI ?_|refine aI ?_|refine uI ?_|refine vI ?_|refine dI ?_|refine dR ?_|refine dP ?_|refine am rfl ?_|refine pI _ rfl ?_|refine ak _ rfl ?_|refine tI ?_|refine fI ?_|refine ag (fun _=>?_) (fun _=>?_))<;>conv=>whnf)
   all_goals
    refine⟨aj ?_,rfl⟩
    unfold pY
    dsimp only
    (repeat' split)<;>omega
  by_cases e2:p.fault=2
  ·repeat' ((first|refine nI ?_|refine aI ?_|refine tI ?_|refine fI ?_|fail);conv=>whnf)
   all_goals try(refine dI ?_)
   all_goals
    conv=>whnf
    repeat' ((first|refine nI ?_|refine aI ?_|refine uI ?_|refine vI ?_|refine dI ?_|refine dR ?_|refine dP ?_|refine am rfl ?_|refine pI _ rfl ?_|refine ak _ rfl ?_|refine tI ?_|refine fI ?_|refine ag (fun _=>?_) (fun _=>?_))<;>conv=>whnf)
   all_goals
    refine⟨aj ?_,rfl⟩
    unfold pY
    dsimp only
    (repeat' split)<;>omega
  by_cases e3:p.fault=3
  ·repeat' ((first|refine nI ?_|refine aI ?_|refine tI ?_|refine fI ?_|fail);conv=>whnf)
   all_goals try(refine dI ?_)
   all_goals
    conv=>whnf
    repeat' ((first|refine nI ?_|refine aI ?_|refine uI ?_|refine vI ?_|refine dI ?_|refine dR ?_|refine dP ?_|refine am rfl ?_|refine pI _ rfl ?_|refine ak _ rfl ?_|refine tI ?_|refine fI ?_|refine ag (fun _=>?_) (fun _=>?_))<;>conv=>whnf)
   all_goals
    refine⟨aj ?_,rfl⟩
    unfold pY
    dsimp only
    (repeat' split)<;>omega
  ·repeat' ((first|refine nI ?_|refine aI ?_|refine tI ?_|refine fI ?_|fail);conv=>whnf)
   repeat' ((first|refine nI ?_|refine aI ?_|refine uI ?_|refine vI ?_|refine dI ?_|refine dR ?_|refine dP ?_|refine am rfl ?_|refine pI _ rfl ?_|refine ak _ rfl ?_|refine tI ?_|refine fI ?_|refine ag (fun _=>?_) (fun _=>?_))<;>conv=>whnf)
   all_goals
    refine⟨aj ?_,rfl⟩
    unfold pY
    dsimp only
    (repeat' split)<;>omega
theorem mC {i n:Int} (h:cZ i n=0):0<=i/\i<n:=by
 unfold cZ at h;split at h<;>omega
theorem kZ {m v:Int} (h:f9 m v=0):-1<=v/\v<m:=by
 unfold f9 at h;split at h<;>omega
theorem HL {m:Int} {g:mY} (h:gE m g=0):(0<=g.message/\g.message<m)/\(1<=g.coef/\g.coef<=100)/\mt g.bound:=by
 have hz:=cd h
 have h1:=hz (cZ g.message m) (by simp)
 have h2:=hz (ky g.coef) (by simp)
 have h3:=hz (mw g.bound) (by simp)
 refine⟨mC h1,?_,?_⟩
 ·unfold ky at h2;split at h2<;>omega
 ·unfold mw at h3;split at h3
  ·assumption
  ·omega
theorem pZ {m:Int} {l:List mY} (h:bQ m l=0):∀j,j<l.length->(0<=(l.getD j du).message/\(l.getD j du).message<m)/\(1<=(l.getD j du).coef/\(l.getD j du).coef<=100)/\mt (l.getD j du).bound:=by
 intro j hj
 unfold bQ at h
 by_cases h1:co (l.map (gE m))=0
 ·exact HL (cd h1 _ (List.mem_map.2 ⟨_,by rw[gD,gL hj];exact List.getElem_mem _,rfl⟩))
 ·rw[if_pos h1] at h;omega
structure gi (p:aq) (r:cY):Prop where
 fit:cb r.kind p.topology
 sur:¬jz r p.topology
 src:0<=r.src/\r.src<p.states.length
 dst:0<=r.dst/\r.dst<p.states.length
 kin:dH p r=0
theorem BQ {p:aq} {i:Nat} {r:cY} (h:cW p i r=0):gi p r:=by
 unfold cW at h
 by_cases h1:¬cR r.name\/ga p.rules i r
 ·rw[if_pos h1] at h;omega
 rw[if_neg h1] at h
 by_cases h2:¬cb r.kind p.topology\/jz r p.topology
 ·rw[if_pos h2] at h;omega
 rw[if_neg h2] at h
 have hz:=cd h
 refine⟨?_,fun hs=>h2 (.inr hs),mC (hz _ (by simp)),mC (hz _ (by simp)),hz _ (by simp)⟩
 by_cases hf:cb r.kind p.topology
 ·exact hf
 ·exact absurd (.inl hf) h2
theorem aF {p:aq} (h:bC p=0) {i:Nat} (hi:i<p.rules.length):gi p (p.rules.getD i au):=by
 unfold bC at h
 have ht:uP p=0:=by
  (repeat' split at h)<;>first|exact h|omega
 have hz:=cd ht (iH p) (by simp)
 refine BQ (i:=i) (cd hz _ (List.mem_map.2 ⟨i,List.mem_range.2 hi,rfl⟩))
structure cK (p:aq) (s:aB) (c:ap):Prop where
 big:¬bV p
 wide:aX c=false
 val:bC p=0
 siz:BB s
 sz:(1<=s.n/\s.n<=8)/\(0<=s.f/\s.f<=s.n)
 adm:jA p s
 vc:VC p s c
theorem cK.of {p:aq} {s:aB} {c:ap} (hp:¬bV p) (hw:aX c=false) (h:jP p s c=0):cK p s c:=by
 unfold jP at h
 by_cases h1:cE p s≠0
 ·rw[if_pos h1] at h;omega
 rw[if_neg h1] at h
 have h2:=dY (p:=p) (s:=s) (by omega)
 refine⟨hp,hw,h2.1,by unfold BB;omega,by omega,h2.2.1,?_⟩
 unfold vX at h
 by_cases h3:VC p s c
 ·exact h3
 ·rw[if_neg h3] at h;omega
theorem cK.sent {p:aq} {s:aB} {c:ap} (h:cK p s c):jT c.sent 1048577/\jT c.faulty 1048577:=by
 refine⟨h.vc.sen,fun j hj=>?_⟩
 have:=h.vc.fau j hj
 have e:wI p<=1048576:=by unfold wI;split<;>omega
 omega
theorem y6 (l:wA) (s:aB) (hl:mt l) (hs:BB s):aa Tryz.prog 151 [.agg (lD l), .agg (bW s)] (fun u=>u= .tup [.int .i64 (pT l s), .int .i64 0]):=by
 have hs':=hs
 unfold BB at hs'
 refine aa.intro ab ac Tryz.func151 rfl (by decide) ?_;(conv=>whnf)
 refine am rfl ?_
 conv=>whnf
 refine am rfl ?_
 conv=>whnf
 refine dC (FZ l) (fun _=>?_) (fun _=>?_)<;>(conv=>whnf)
 case refine_2=>rename_i h;exact absurd hl h
 refine dC (bd _ _ _) (fun _=>?_) (fun _=>?_)<;>(conv=>whnf)
 case refine_2=>rename_i h;omega
 refine dC (bd _ _ _) (fun _=>?_) (fun _=>?_)<;>(conv=>whnf)
 case refine_2=>rename_i h;omega
 refine dC (bd _ _ _) (fun _=>?_) (fun _=>?_)<;>(conv=>whnf)
 case refine_2=>rename_i h;omega
 (refine oP (BD l s hl hs) ?_;conv=>whnf)
 exact⟨rfl,rfl⟩
def ny (p:aq) (s:aB) (c:ap) (f:Bool) (g:mY):Prop:=pT g.bound s<=g.coef*pY p s c g.message f
def s4 (p:aq) (s:aB) (c:ap) (r:cY) (f:Bool):Prop:=∀j,j<r.guards.length->ny p s c f (r.guards.getD j du)
noncomputable instance decGrd (p:aq) (s:aB) (c:ap) (r:cY) (f:Bool):Decidable (s4 p s c r f):=Classical.propDecidable _
theorem Fk {a b:Int} (ha:1<=a/\a<=100) (hb:0<=b/\b<=2097152):0<=a*b/\a*b<=209715200:=by
 have h1:0<=a*b:=Int.mul_nonneg (by omega) hb.1
 have h2:a*b<=100*2097152:=Int.mul_le_mul (by omega) hb.2 hb.1 (by omega)
 omega
theorem Ef (p:aq) (s:aB) (c:ap) (r:cY) (f:Bool) (h:cK p s c) (hr:¬mr r) (hg:bQ p.messages.length r.guards=0):aa Tryz.prog 128 [.agg (gV p s c), .agg (iY r), .bool f] (fun u=>u= .bool (decide (s4 p s c r f))):=by
 have hle:=aC h.big
 have hbr:=bo hr
 have hgs:=pZ hg
 have hsn:=h.vc.snl
 have hfa:=h.vc.fal
 have hz:=h.siz
 unfold BB at hz
 refine aa.intro ab ac Tryz.func128 rfl (by decide) ?_;(conv=>whnf)
 refine am rfl ?_
 conv=>whnf
 refine am rfl ?_
 conv=>whnf
 refine aR.loopF ab ac (fun k:Nat=>k<=r.guards.length/\∀j,j<k->ny p s c f (r.guards.getD j du)) (fun k=>[(14, .int .i64 (k:Int))]) (fun _=>[]) (fun k=>r.guards.length-k) 0 ⟨by omega,fun j hj=>by omega⟩ ?_;conv=>whnf
 refine⟨sI,?_⟩
 rintro k ⟨hk,ha⟩
 conv=>whnf
 refine ag ?_ ?_<;>(intro h1;conv=>whnf)
 ·obtain⟨g1,g2,g3⟩:=hgs k (by omega)
  have nok:¬ny p s c f (r.guards.getD k du)->¬s4 p s c r f:=fun hn hb=>hn (hb k (by omega))
  have next:ny p s c f (r.guards.getD k du)->∀j,j<k+1->ny p s c f (r.guards.getD j du):=fun hn j hj=>by
   by_cases e:j=k
   ·subst e;exact hn
   ·exact ha j (by omega)
  refine nI ?_
  rw[tN]
  generalize r.guards.getD k du=g at g1 g2 g3 nok next
  have hb:=BO (p:=p) (s:=s) (c:=c) (m:=g.message) f h.sent.1 h.sent.2 (by omega) (by omega)
  have hm:=Fk g2 hb
  conv=>whnf
  (refine oP (rS g.bound s g3 h.siz) ?_;conv=>whnf)
  refine dI ?_
  conv=>whnf
  (refine oC (BP p s c g.message f h.sent.1 h.sent.2 (by omega) (by omega)) ?_;conv=>whnf)
  repeat' ((first|refine nI ?_|refine aI ?_|refine tI ?_|refine fI ?_|fail);conv=>whnf)
  refine ag ?_ ?_<;>(intro h2;conv=>whnf)
  ·exact⟨an (nok (by unfold ny;omega)),rfl⟩
  ·repeat' ((first|refine nI ?_|refine aI ?_|refine tI ?_|refine fI ?_|fail);conv=>whnf)
   exact⟨k+1,sI,⟨by omega,next (by unfold ny;omega)⟩,by dsimp only;omega⟩
 ·exact⟨aH (fun j hj=>ha j (by omega)),rfl⟩
def xM (c:ap) (l:List Int) (i:Int) (k:Nat):Prop:=l.length=0\/∃j,j<k/\(j:Int)≠i/\c.states.getD j 0∈l
def wL (c:ap) (l:List Int) (i:Int) (k:Nat):Prop:=l.length=0\/∀j,j<k->(j:Int)≠i->c.states.getD j 0∈l
def uZ (c:ap) (r:cY) (i:Int):Prop:=xM c r.some_ i c.states.length/\wL c r.forall_ i c.states.length
noncomputable instance decOth (c:ap) (r:cY) (i:Int):Decidable (uZ c r i):=Classical.propDecidable _
section
variable {c:ap} {l:List Int} {i:Int} {k:Nat}
theorem u3:xM c l i 0↔l.length=0:=⟨fun h=>h.elim id (fun⟨j,hj,_⟩=>by omega), .inl⟩
theorem u4:wL c l i 0:=.inr fun j hj=>by omega
theorem p5 (h:(k:Int)=i):xM c l i (k+1)↔xM c l i k:=
 ⟨fun h1=>h1.elim .inl (fun⟨j,hj,hn,hm⟩=>.inr ⟨j,by omega,hn,hm⟩),fun h1=>h1.elim .inl (fun⟨j,hj,hn,hm⟩=>.inr ⟨j,by omega,hn,hm⟩)⟩
theorem p6 (h:(k:Int)=i):wL c l i (k+1)↔wL c l i k:=
 ⟨fun h1=>h1.elim .inl (fun h2=>.inr fun j hj hn=>h2 j (by omega) hn),fun h1=>h1.elim .inl (fun h2=>.inr fun j hj hn=>h2 j (by omega) hn)⟩
theorem s5 (h:xM c l i k):xM c l i (k+1):=h.elim .inl (fun⟨j,hj,hn,hm⟩=>.inr ⟨j,by omega,hn,hm⟩)
theorem s6 (h:(k:Int)≠i) (hm:c.states.getD k 0∈l):xM c l i (k+1):=.inr ⟨k,by omega,h,hm⟩
theorem wM (h:¬xM c l i k) (hm:c.states.getD k 0∉l):¬xM c l i (k+1):=fun h1=>h1.elim (fun e=>h (.inl e)) (fun⟨j,hj,hn,hmm⟩=>by
 by_cases e:j=k
 ·subst e;exact hm hmm
 ·exact h (.inr ⟨j,by omega,hn,hmm⟩))
theorem Eg (h:¬wL c l i k):¬wL c l i (k+1):=fun h1=>h (h1.elim .inl (fun h2=>.inr fun j hj hn=>h2 j (by omega) hn))
theorem oF (h:l.length=0):wL c l i k:=.inl h
theorem oG (h:wL c l i k) (hm:c.states.getD k 0∈l):wL c l i (k+1):=h.elim .inl (fun h2=>.inr fun j hj hn=>by
 by_cases e:j=k
 ·subst e;exact hm
 ·exact h2 j (by omega) hn)
theorem F8 (h0:¬l.length=0) (h:(k:Int)≠i) (hm:c.states.getD k 0∉l):¬wL c l i (k+1):=fun h1=>h1.elim h0 (fun h2=>hm (h2 k (by omega) h))
end
theorem dc {p:Prop} (h:p):(true=true↔p):=⟨fun _=>h,fun _=>rfl⟩
theorem dz {p:Prop} (h:¬p):(false=true↔p):=⟨fun e=>(by cases e),fun e=>absurd e h⟩
theorem dg {p:Prop} (h:false=true↔p):¬p:=fun hp=>by have:=h.2 hp;cases this
theorem Eh (p:aq) (s:aB) (c:ap) (r:cY) (i:Int) (hw:aX c=false) (hr:¬mr r):aa Tryz.prog 129 [.agg (gV p s c), .agg (iY r), .int .i64 i] (fun u=>u= .bool (decide (uZ c r i))):=by
 have hbr:=bo hr
 have hc:=aG hw
 refine aa.intro ab ac Tryz.func129 rfl (by decide) ?_;(conv=>whnf)
 refine am rfl ?_
 conv=>whnf
 refine am rfl ?_
 conv=>whnf
 refine G6 ?_
 conv=>whnf
 refine aR.loopF ab ac (fun x:Nat×Bool×Bool=>x.1<=c.states.length/\(x.2.1=true↔xM c r.some_ i x.1)/\(x.2.2=true↔wL c r.forall_ i x.1)) (fun x=>[(19, .int .i64 (x.1:Int)),(7, .bool x.2.1),(8, .bool x.2.2)]) (fun _=>[]) (fun x=>c.states.length-x.1) (0,decide ((r.some_.length:Int)=0),true) ⟨Nat.zero_le _,by rw[u3,decide_eq_true_iff];omega,dc u4⟩ ?_;conv=>whnf
 refine⟨sI,?_⟩
 rintro⟨k,e,a⟩ ⟨hk,he,ha⟩
 dsimp only at hk he ha⊢
 cases e<;>cases a
 all_goals
  conv=>whnf
  refine ag ?_ ?_<;>(intro h1;conv=>whnf)
 case' false.false.refine_2=>exact⟨an (fun hh=>dg he (by rw[show k=c.states.length by omega];exact hh.1)),rfl⟩
 case' false.true.refine_2=>exact⟨an (fun hh=>dg he (by rw[show k=c.states.length by omega];exact hh.1)),rfl⟩
 case' true.false.refine_2=>exact⟨an (fun hh=>dg ha (by rw[show k=c.states.length by omega];exact hh.2)),rfl⟩
 case' true.true.refine_2=>exact⟨aH ⟨by have:=he.1 rfl;rwa [show k=c.states.length by omega] at this,by have:=ha.1 rfl;rwa [show k=c.states.length by omega] at this⟩,rfl⟩
 all_goals
  refine nI ?_
  rw[tN]
  conv=>whnf
  refine ag ?_ ?_<;>(intro h2;conv=>whnf)
  case refine_1=>
   repeat' ((first|refine nI ?_|refine aI ?_|refine tI ?_|refine fI ?_|fail);conv=>whnf)
   exact⟨(k+1,_,_),sI,⟨by dsimp only;omega,he.trans (p5 h2).symm,ha.trans (p6 h2).symm⟩,by dsimp only;omega⟩
 case' false.false.refine_1=>
  refine dC (fM r.some_ _ (by omega)) (fun _=>?_) (fun _=>?_)<;>(conv=>whnf)
  case' refine_1=>have hE:=dc (s6 h2 (by assumption))
  case' refine_2=>have hE:=dz (wM (dg he) (by assumption))
 case' false.true.refine_1=>
  refine dC (fM r.some_ _ (by omega)) (fun _=>?_) (fun _=>?_)<;>(conv=>whnf)
  case' refine_1=>have hE:=dc (s6 h2 (by assumption))
  case' refine_2=>have hE:=dz (wM (dg he) (by assumption))
 case' true.false.refine_1=>have hE:=dc (s5 (he.1 rfl))
 case' true.true.refine_1=>have hE:=dc (s5 (he.1 rfl))
 all_goals first
  |(refine ag ?_ ?_<;>(intro h3;conv=>whnf)
    ·repeat' ((first|refine nI ?_|refine aI ?_|refine tI ?_|refine fI ?_|fail);conv=>whnf)
     exact⟨(k+1,_,_),sI,⟨by dsimp only;omega,hE,dc (oF (by omega))⟩,by dsimp only;omega⟩
    ·refine dC (fM r.forall_ _ (by omega)) (fun _=>?_) (fun _=>?_)<;>(conv=>whnf)
     ·rename_i h4
      repeat' ((first|refine nI ?_|refine aI ?_|refine tI ?_|refine fI ?_|fail);conv=>whnf)
      exact⟨(k+1,_,_),sI,⟨by dsimp only;omega,hE,dc (oG (ha.1 rfl) h4)⟩,by dsimp only;omega⟩
     ·rename_i h4
      repeat' ((first|refine nI ?_|refine aI ?_|refine tI ?_|refine fI ?_|fail);conv=>whnf)
      exact⟨(k+1,_,_),sI,⟨by dsimp only;omega,hE,dz (F8 (by omega) h2 h4)⟩,by dsimp only;omega⟩)
  |(skip
    repeat' ((first|refine nI ?_|refine aI ?_|refine tI ?_|refine fI ?_|fail);conv=>whnf)
    exact⟨(k+1,_,_),sI,⟨by dsimp only;omega,hE,dz (Eg (dg ha))⟩,by dsimp only;omega⟩)
def y7 (c:ap) (l:List Int) (x:Int):Prop:=l.length=0\/(0<=x/\c.states.getD x.toNat 0∈l)
noncomputable instance decDem (c:ap) (l:List Int) (x:Int):Decidable (y7 c l x):=Classical.propDecidable _
theorem BR (p:aq) (s:aB) (c:ap) (l:List Int) (x:Int) (hl:l.length<=60) (hx:x<c.states.length) (hw:aX c=false):aa Tryz.prog 131 [.agg (gV p s c), .sl 0 aD l, .int .i64 x] (fun u=>u= .bool (decide (y7 c l x))):=by
 have hc:=aG hw
 refine aa.intro ab ac Tryz.func131 rfl (by decide) ?_;(conv=>whnf)
 refine am rfl ?_
 conv=>whnf
 refine ag ?_ ?_<;>(intro h1;conv=>whnf)
 ·exact⟨aH (.inl (by omega)),rfl⟩
 refine ag ?_ ?_<;>(intro h2;conv=>whnf)
 ·refine nI ?_
  conv=>whnf
  refine dC (fM l _ (by omega)) (fun _=>?_) (fun _=>?_)<;>(conv=>whnf)
  ·rename_i h3;exact⟨aH (.inr ⟨h2,h3⟩),rfl⟩
  ·rename_i h3;exact⟨an (fun h=>h.elim (by omega) (fun h=>h3 h.2)),rfl⟩
 ·exact⟨an (fun h=>h.elim (by omega) (fun h=>h2 h.1)),rfl⟩
theorem p7 (c:ap) (l:List Int) (x:Int) (hl:l.length<=60) (hx:x<c.states.length) (hw:aX c=false):aa Tryz.prog 117 [.agg (aY c), .sl 0 aD l, .int .i64 x] (fun u=>u= .bool (decide (y7 c l x))):=by
 have hc:=aG hw
 refine aa.intro ab ac Tryz.func117 rfl (by decide) ?_;(conv=>whnf)
 refine am rfl ?_
 conv=>whnf
 refine ag ?_ ?_<;>(intro h1;conv=>whnf)
 ·exact⟨aH (.inl (by omega)),rfl⟩
 refine ag ?_ ?_<;>(intro h2;conv=>whnf)
 ·refine nI ?_
  conv=>whnf
  refine dC (uX l _ (by omega)) (fun _=>?_) (fun _=>?_)<;>(conv=>whnf)
  ·rename_i h3;exact⟨aH (.inr ⟨h2,h3⟩),rfl⟩
  ·rename_i h3;exact⟨an (fun h=>h.elim (by omega) (fun h=>h3 h.2)),rfl⟩
 ·exact⟨an (fun h=>h.elim (by omega) (fun h=>h2 h.1)),rfl⟩
end
section
theorem ji.leaf {l:List Int} (h:ji l) {i:Nat} (hi:i<l.length) (h0:l.getD i 0=0):bF l i=i+1:=by
 obtain⟨e,h3,h4⟩:=h.at hi
 rw[fK hi,cn 0,if_pos h0,dW,Option.some.injEq] at e
 have:=congrArg List.length e
 simp only[List.length_drop] at this
 omega
theorem ji.root {l:List Int} (h:ji l) (hl:0<l.length):bF l 0=l.length:=by
 obtain⟨e,h3,h4⟩:=h.at hl
 rw[List.drop_zero,show bN 1 l=some [] from h,Option.some.injEq] at e
 have:=congrArg List.length e
 simp only[List.length_drop,List.length_nil] at this
 omega
theorem ji.parAll {l:List Int} (h:ji l):∀i,i<l.length->(0<i->0<=cw l i/\cw l i<i)/\(bF l i<l.length->0<=cw l (bF l i)/\cw l (bF l i)<i):=by
 intro i
 induction i using Nat.strongRecOn with
 |_ i ih=>
  intro hi
  have one:0<i->0<=cw l i/\cw l i<i:=by
   intro h0
   obtain⟨j,rfl⟩:∃j,i=j+1:=⟨i-1,by omega⟩
   rcases h.zeroTwo (i:=j) (by omega) with h2|h2
   ·have e:=h.leaf (by omega) h2
    have:=(ih j (by omega) (by omega)).2 (by omega)
    rw[e] at this
    omega
   ·have:=qL h (i:=j) (by omega) h2
    omega
  refine⟨one,fun he=>?_⟩
  by_cases h0:i=0
  ·subst h0
   have:=h.root (by omega)
   omega
  ·obtain⟨a,b⟩:=one (by omega)
   rcases pE l i i with hc|⟨k,hk,hc,hp⟩
   ·unfold cw at a;omega
   ·simp only[da,Bool.and_eq_true,Bool.or_eq_true,decide_eq_true_eq] at hp
    obtain⟨h2,hp⟩:=hp
    have ht:=h.two (i:=k) (by omega) h2
    rcases hp with hp|hp
    ·have:=pF h (i:=k) (by omega) h2
     rw[hp] at this
     omega
    ·rw[hp] at ht
     have:=(ih k hk (by omega)).2 (by omega)
     rw[<-ht.2.2.2.1] at this
     omega
theorem s7 (l:List Int):cw l 0=-1:=rfl
theorem Fl {t:Int} {l:List Int} {n i:Nat} (hi:i<n):-1<=qM t l n i/\qM t l n i<n:=by
 unfold qM
 by_cases h:t=4/\pH t l n=true
 ·rw[if_pos h]
  unfold cw
  rcases pE l i i with hc|⟨k,hk,hc,_⟩<;>omega
 ·rw[if_neg h];omega
theorem F9 {t:Int} {l:List Int} {n:Nat} (h:t=4) (hs:ji l) (hl:l.length=n):pH t l n=true:=by
 unfold pH;rw[decide_eq_true_iff];exact fun _=>⟨hs,hl⟩
set_option maxRecDepth 100000
set_option maxHeartbeats 8000000
structure be where
 rule:Int
 process:Int
 partner:Int
def cF (x:be):List AV:=[.int .i64 x.rule, .int .i64 x.process, .int .i64 x.partner]
def bm:be:=⟨0,0,0⟩
def nF (p:aq) (c:ap) (i:Nat):Int:=pJ p.topology c.shape c.states.length i
def nS (p:aq) (c:ap) (i:Nat):Int:=oz p.topology c.shape c.states.length i
def nP (p:aq) (c:ap) (i:Nat):Int:=qM p.topology c.shape c.states.length i
def y8 (p:aq) (c:ap) (r:cY) (i:Nat):Prop:=(r.at_=1->i=0)/\(r.at_=2->(p.topology=2->nS p c i=-1)/\(p.topology=4->nF p c i=-1))
noncomputable instance decPos (p:aq) (c:ap) (r:cY) (i:Nat):Decidable (y8 p c r i):=Classical.propDecidable _
def s8 (p:aq) (c:ap) (r:cY) (i:Nat) (j:Int):Prop:=if r.direction=1 then nS p c i=j else if r.direction=2 then nF p c i=j else if r.direction=3 then(nF p c i=j\/nS p c i=j) else nP p c i=j
noncomputable instance decPas (p:aq) (c:ap) (r:cY) (i:Nat) (j:Int):Decidable (s8 p c r i j):=Classical.propDecidable _
def u5 (c:ap) (r:cY) (x:be):Prop:=0<=x.partner/\x.partner<c.states.length/\x.partner≠x.process/\c.states.getD x.partner.toNat 0=r.pfrom
def Ga (p:aq) (c:ap) (r:cY) (i:Nat):Prop:=y8 p c r i/\y7 c r.left (nF p c i)/\y7 c r.right (nS p c i)/\y7 c r.parent (nP p c i)
def qR (p:aq) (s:aB) (c:ap) (r:cY) (x:be) (f:Bool):Prop:=
 if r.kind=2\/r.kind=5 then u5 c r x/\(r.kind=2\/s8 p c r x.process.toNat x.partner)
 else x.partner=-1/\(if r.kind=1 then s4 p s c r f/\uZ c r x.process else if r.kind=3 then True else Ga p c r x.process.toNat)
def Fm (p:aq) (s:aB) (c:ap) (r:cY) (x:be) (f:Bool):Prop:=c.states.getD x.process.toNat 0=r.src/\(r.read=-1\/c.value=r.read)/\qR p s c r x f
def cz (p:aq) (s:aB) (c:ap) (x:be) (f:Bool):Prop:=((0<=x.rule/\x.rule<p.rules.length)/\(0<=x.process/\x.process<c.states.length))/\Fm p s c (p.rules.getD x.rule.toNat au) x f
noncomputable instance decEn (p:aq) (s:aB) (c:ap) (x:be) (f:Bool):Decidable (cz p s c x f):=Classical.propDecidable _
theorem wN {p:aq} (h:bC p=0):1<=p.topology/\p.topology<=4:=by
 unfold bC at h
 by_cases h1:¬cR p.name
 ·rw[if_pos h1] at h;omega
 rw[if_neg h1] at h
 by_cases h2:p.topology<1\/4<p.topology\/p.fault<0\/3<p.fault
 ·rw[if_pos h2] at h;omega
 ·omega
theorem wO {p:aq} (h:bC p=0) (ht:p.topology≠1):p.messages.length=0/\p.values.length=0/\p.resilience.length=0/\p.fault=0:=by
 unfold bC at h
 (repeat' split at h)<;>omega
theorem gi.read {p:aq} {r:cY} (h:gi p r):-1<=r.read/\-1<=r.write/\r.read<p.values.length/\r.write<p.values.length:=by
 have hk:=h.kin
 have hs:=h.sur
 have hf:=h.fit
 unfold cb at hf
 unfold dH at hk
 by_cases k1:r.kind=1
 ·rw[if_pos k1] at hk
  have hz:=cd hk
  have a:=kZ (hz (f9 p.values.length r.read) (by simp))
  have b:=kZ (hz (f9 p.values.length r.write) (by simp))
  omega
 rw[if_neg k1] at hk
 by_cases k2:r.kind=2
 ·rw[if_pos k2] at hk
  have hz:=cd hk
  have a:=kZ (hz (f9 p.values.length r.read) (by simp))
  have b:=kZ (hz (f9 p.values.length r.write) (by simp))
  omega
 rw[if_neg k2] at hk
 by_cases k3:r.kind=3
 ·rw[if_pos k3] at hk
  have hz:=cd hk
  have a:=kZ (hz (f9 p.values.length r.read) (by simp))
  have b:=kZ (hz (f9 p.values.length r.write) (by simp))
  omega
 ·unfold jz at hs
  omega
theorem gi.guards {p:aq} {r:cY} (h:gi p r) (hk:r.kind=1):bQ p.messages.length r.guards=0:=by
 have:=h.kin
 unfold dH at this
 rw[if_pos hk] at this
 exact cd this _ (by simp)
theorem gi.at4 {p:aq} {r:cY} (h:gi p r) (hk:r.kind=4):Bx r.at_ p.topology=0:=by
 have:=h.kin
 unfold dH at this
 rw[if_neg (by omega),if_neg (by omega),if_neg (by omega),if_pos hk] at this
 exact cd this _ (by simp)
theorem Gb {p:aq} {s:aB} {c:ap} {r:cY} {i:Nat} (h:cK p s c) (hr:gi p r) (hk:r.kind=4) (hi:i<c.states.length):
  y8 p c r i↔(r.at_=0\/(r.at_=1/\p.topology=4/\nP p c i<0)\/(r.at_=1/\p.topology≠4/\nF p c i<0)\/(r.at_≠0/\r.at_≠1/\nS p c i<0)):=by
 have hat:=hr.at4 hk
 have ht:=wN h.val
 have hf:=hr.fit
 unfold cb at hf
 unfold Bx at hat
 have hat2:(r.at_=0\/r.at_=1\/r.at_=2)/\(r.at_≠0->p.topology≠3):=by
  split at hat<;>omega
 have htop:p.topology=2\/p.topology=3\/p.topology=4:=by omega
 have lin:p.topology=2->nF p c i=(i:Int)-1/\nS p c i=if i+1=c.states.length then -1 else(i:Int)+1:=fun e=>by
  unfold nF nS pJ oz
  rw[if_pos e,if_pos e]
  exact⟨rfl,rfl⟩
 have tre:p.topology=4->nF p c i=iG c.shape i/\nS p c i=fR c.shape i/\nP p c i=cw c.shape i/\(i=0↔cw c.shape i<0):=fun e=>by
  obtain⟨e1,e2⟩:=h.vc.tre e
  have e3:=h.vc.len
  have hlen:c.shape.length=c.states.length:=by
   unfold dL at e3
   have:=wO h.val (by omega)
   rw[if_neg (by omega)] at e3
   omega
  have hl:=F9 e e2 hlen
  unfold nF nS nP pJ oz qM
  rw[if_neg (by omega),if_neg (by omega),if_pos ⟨e,hl⟩,if_neg (by omega),if_neg (by omega),if_pos ⟨e,hl⟩,if_pos ⟨e,hl⟩]
  refine⟨rfl,rfl,rfl,?_⟩
  constructor
  ·intro e0;subst e0;rw[s7];omega
  ·intro hlt
   by_cases e0:i=0
   ·exact e0
   ·have:=(e2.parAll i (by omega)).1 (by omega)
    omega
 unfold y8
 rcases htop with e|e|e
 ·obtain⟨a,b⟩:=lin e
  by_cases e1:i+1=c.states.length
  ·rw[if_pos e1] at b;constructor<;>intro hh<;>omega
  ·rw[if_neg e1] at b;constructor<;>intro hh<;>omega
 ·constructor<;>intro hh<;>omega
 ·obtain⟨a,b,d,g⟩:=tre e
  unfold iG at a
  unfold fR at b
  by_cases e1:c.shape.getD i 0=2
  ·rw[if_pos e1] at a b;constructor<;>intro hh<;>omega
  ·rw[if_neg e1] at a b;constructor<;>intro hh<;>omega
theorem y9 (p:aq) (s:aB) (c:ap) (r:cY) (i:Nat) (h:cK p s c) (hr:gi p r) (hk:r.kind=4) (hi:i<c.states.length):aa Tryz.prog 130 [.agg (gV p s c), .agg (iY r), .int .i64 (i:Int)] (fun u=>u= .bool (decide (y8 p c r i))):=by
 have hpe:=Gb h hr hk hi
 have f1:((List.range c.states.length).map (pJ p.topology c.shape c.states.length)).length=c.states.length:=by simp
 have f2:((List.range c.states.length).map (oz p.topology c.shape c.states.length)).length=c.states.length:=by simp
 have f3:((List.range c.states.length).map (qM p.topology c.shape c.states.length)).length=c.states.length:=by simp
 unfold nF nS nP at hpe
 refine aa.intro ab ac Tryz.func130 rfl (by decide) ?_;(conv=>whnf)
 refine am rfl ?_
 conv=>whnf
 refine am rfl ?_
 conv=>whnf
 refine ag ?_ ?_<;>(intro h1;conv=>whnf)
 ·exact⟨aH (hpe.2 (.inl h1)),rfl⟩
 by_cases h2:r.at_=1
 ·by_cases h3:p.topology=4
  ·repeat' ((first|refine nI ?_|refine aI ?_|refine tI ?_|refine fI ?_|fail);conv=>whnf)
   rw[tN,aZ _ _ _ hi]
   refine ag ?_ ?_<;>(intro h4;conv=>whnf)
   ·exact⟨aH (hpe.2 (by omega)),rfl⟩
   ·exact⟨an (fun hh=>by have:=hpe.1 hh;omega),rfl⟩
  ·repeat' ((first|refine nI ?_|refine aI ?_|refine tI ?_|refine fI ?_|fail);conv=>whnf)
   rw[tN,aZ _ _ _ hi]
   refine ag ?_ ?_<;>(intro h4;conv=>whnf)
   ·exact⟨aH (hpe.2 (by omega)),rfl⟩
   ·exact⟨an (fun hh=>by have:=hpe.1 hh;omega),rfl⟩
 ·by_cases h3:p.topology=4
  all_goals
   repeat' ((first|refine nI ?_|refine aI ?_|refine tI ?_|refine fI ?_|fail);conv=>whnf)
   rw[tN,aZ _ _ _ hi]
   refine ag ?_ ?_<;>(intro h4;conv=>whnf)
   ·exact⟨aH (hpe.2 (by omega)),rfl⟩
   ·exact⟨an (fun hh=>by have:=hpe.1 hh;omega),rfl⟩
theorem Ei (p:aq) (s:aB) (c:ap) (r:cY) (i:Nat) (j:Int) (hi:i<c.states.length):aa Tryz.prog 127 [.agg (gV p s c), .agg (iY r), .int .i64 (i:Int), .int .i64 j] (fun u=>u= .bool (decide (s8 p c r i j))):=by
 have f1:((List.range c.states.length).map (pJ p.topology c.shape c.states.length)).length=c.states.length:=by simp
 have f2:((List.range c.states.length).map (oz p.topology c.shape c.states.length)).length=c.states.length:=by simp
 have f3:((List.range c.states.length).map (qM p.topology c.shape c.states.length)).length=c.states.length:=by simp
 have he:s8 p c r i j=(if r.direction=1 then oz p.topology c.shape c.states.length i=j else if r.direction=2 then pJ p.topology c.shape c.states.length i=j else if r.direction=3 then(pJ p.topology c.shape c.states.length i=j\/oz p.topology c.shape c.states.length i=j) else qM p.topology c.shape c.states.length i=j):=rfl
 refine aa.intro ab ac Tryz.func127 rfl (by decide) ?_;(conv=>whnf)
 refine am rfl ?_
 conv=>whnf
 refine am rfl ?_
 conv=>whnf
 by_cases h1:r.direction=1
 ·rw[if_pos h1] at he
  repeat' ((first|refine nI ?_|refine aI ?_|refine tI ?_|refine fI ?_|fail);conv=>whnf)
  rw[tN,aZ _ _ _ hi]
  refine ag ?_ ?_<;>(intro h4;conv=>whnf)
  ·exact⟨aH (by rw[he];exact h4),rfl⟩
  ·exact⟨an (by rw[he];exact h4),rfl⟩
 rw[if_neg h1] at he
 by_cases h2:r.direction=2
 ·rw[if_pos h2] at he
  repeat' ((first|refine nI ?_|refine aI ?_|refine tI ?_|refine fI ?_|fail);conv=>whnf)
  rw[tN,aZ _ _ _ hi]
  refine ag ?_ ?_<;>(intro h4;conv=>whnf)
  ·exact⟨aH (by rw[he];exact h4),rfl⟩
  ·exact⟨an (by rw[he];exact h4),rfl⟩
 rw[if_neg h2] at he
 by_cases h3:r.direction=3
 ·rw[if_pos h3] at he
  repeat' ((first|refine nI ?_|refine aI ?_|refine tI ?_|refine fI ?_|fail);conv=>whnf)
  rw[tN,aZ _ _ _ hi]
  refine ag ?_ ?_<;>(intro h4;conv=>whnf)
  ·exact⟨aH (by rw[he];exact .inl h4),rfl⟩
  refine nI ?_
  rw[tN,aZ _ _ _ hi]
  conv=>whnf
  refine ag ?_ ?_<;>(intro h5;conv=>whnf)
  ·exact⟨aH (by rw[he];exact .inr h5),rfl⟩
  ·exact⟨an (by rw[he];exact fun h=>h.elim h4 h5),rfl⟩
 ·rw[if_neg h3] at he
  repeat' ((first|refine nI ?_|refine aI ?_|refine tI ?_|refine fI ?_|fail);conv=>whnf)
  rw[tN,aZ _ _ _ hi]
  refine ag ?_ ?_<;>(intro h4;conv=>whnf)
  ·exact⟨aH (by rw[he];exact h4),rfl⟩
  ·exact⟨an (by rw[he];exact h4),rfl⟩
end
end Go.Proofs.YtblcpnmnibcbbaaGreatDoor
