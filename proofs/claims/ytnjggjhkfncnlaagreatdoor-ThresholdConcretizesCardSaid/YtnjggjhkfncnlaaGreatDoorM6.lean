import Derived.Test.YtnjggjhkfncnlaaGreatDoorM5
import Derived.Test.YtnjggjhkfncnlaaGreatDoorM4
set_option linter.unusedVariables false
set_option linter.unusedSimpArgs false
namespace Go.Proofs.YtnjggjhkfncnlaaGreatDoor
set_option maxRecDepth 100000
set_option maxHeartbeats 8000000
def J9 (q:aV) (c:aR):Prop:=∀j,j<q.bad.length->(q.bad.getD j bP).least<=J8 (q.bad.getD j bP).states (c.states.take c.correct.toNat)
def J' (p:au) (q:aV) (c:aR):Prop:=J9 q c/\(q.adjacent.length=0\/I6 p c q.adjacent)
noncomputable instance decBad (p:au) (q:aV) (c:aR):Decidable (J' p q c):=Classical.propDecidable _
def cntS:Sh:=gn (.int .nil)
def cntOf:fT cntS->F6
 |(a,b,_)=>⟨jH a,b⟩
section
variable {S:ai}
theorem cv_cnt (y:fT cntS):v5 S (ce cntS y) (gz (cntOf y)):=by
 obtain⟨a,b,⟨⟩⟩:=y
 exact⟨Cv.ints a,Cv.refl _ _,trivial⟩
theorem cv_cnts (l:List (fT cntS)):Cv S (.sl (ik cntS) (ce cntS) l) (.sl bP gz (l.map cntOf)):=
 Cv.sl (d:=ik cntS) (enc:=ce cntS) bP gz cntOf fun y _=>⟨cv_cnt y,rfl⟩
end
end Go.Proofs.YtnjggjhkfncnlaaGreatDoor
namespace Go.Proofs.YtnjggjhkfncnlaaGreatDoor
set_option maxRecDepth 100000
set_option maxHeartbeats 8000000
def Ka (p:au) (c:aR):List AV:=[.sl 0 an ((List.range c.states.length).map (pJ p.topology c.shape c.states.length)), .sl 0 an ((List.range c.states.length).map (pK p.topology c.shape c.states.length)), .sl 0 an ((List.range c.states.length).map (qK p.topology c.shape c.states.length))]
def pU (p:au) (s:bA) (c:aR):List AV:=aO p++(cj s++(aW c++Ka p c))
theorem G0 (p:au) (s:bA) (c:aR) (hw:ct c=false):ab Tryz.prog 122 [.agg (aO p), .agg (cj s), .agg (aW c)] (fun u=>u= .agg (pU p s c)):=by
 have hc:=b8 hw
 refine ab.intro ac ag Tryz.func122 rfl (by decide) ?_;(conv=>whnf)
 refine al rfl ?_
 conv=>whnf
 refine al rfl ?_
 conv=>whnf
 refine al rfl ?_
 conv=>whnf
 (refine oP (IX p.topology c.shape c.states.length (by omega) (by omega)) ?_;conv=>whnf)
 exact⟨rfl,rfl⟩
def pV (p:au) (s:bA) (c:aR) (m:Int):Bool->Int
 |false=>c.sent.getD m.toNat 0+(if p.fault=1\/p.fault=2 then c.faulty.getD m.toNat 0 else if p.fault=3 then s.f else 0)
 |true=>c.sent.getD m.toNat 0+(if p.fault=1 then c.faulty.getD m.toNat 0 else 0)
theorem BP {p:au} {s:bA} {c:aR} {m:Int} (f:Bool) (h1:jC c.sent 1048577) (h2:jC c.faulty 1048577) (hm:0<=m/\m<c.sent.length/\m<c.faulty.length) (hs:0<=s.f/\s.f<=1048576):0<=pV p s c m f/\pV p s c m f<=2097152:=by
 have a1:=h1 m.toNat (by omega)
 have a2:=h2 m.toNat (by omega)
 cases f<;>unfold pV<;>dsimp only<;>(repeat' split)<;>omega
theorem BQ (p:au) (s:bA) (c:aR) (m:Int) (f:Bool) (h1:jC c.sent 1048577) (h2:jC c.faulty 1048577) (hm:0<=m/\m<c.sent.length/\m<c.faulty.length) (hs:0<=s.f/\s.f<=1048576):ab Tryz.prog 231 [.agg (pU p s c), .int .i64 m, .bool f] (fun u=>u= .int .i64 (pV p s c m f)):=by
 have a1:=h1 m.toNat (by omega)
 have a2:=h2 m.toNat (by omega)
 cases f
 all_goals
  refine ab.intro ac ag Tryz.func231 rfl (by decide) ?_;(conv=>whnf)
  refine al rfl ?_
  conv=>whnf
  refine nI ?_
  conv=>whnf
  repeat' ((first|refine nI ?_|refine aI ?_|refine dz trivial (by omega) ?_|refine dV trivial (by omega) ?_|refine dI ?_|refine dR ?_|refine dP ?_|refine al rfl ?_|refine pI _ rfl ?_|refine ap _ rfl ?_|refine tI ?_|refine fI ?_|refine ah (fun _=>?_) (fun _=>?_))<;>conv=>whnf)
  all_goals
   refine⟨ae ?_,rfl⟩
   unfold pV
   dsimp only
   (repeat' split)<;>omega
theorem G1 (p:au) (s:bA) (c:aR) (m:Int) (f:Bool) (h1:jC c.sent 1048577) (h2:jC c.faulty 1048577) (hm:0<=m/\m<c.sent.length/\m<c.faulty.length) (hs:0<=s.f/\s.f<=1048576):ab Tryz.prog 237 [.agg (aO p), .agg (cj s), .agg (aW c), .int .i64 m, .bool f] (fun u=>u= .int .i64 (pV p s c m f)):=by
 have a1:=h1 m.toNat (by omega)
 have a2:=h2 m.toNat (by omega)
 cases f
 all_goals
  refine ab.intro ac ag Tryz.func237 rfl (by decide) ?_;(conv=>whnf)
  refine al rfl ?_
  conv=>whnf
  refine al rfl ?_
  conv=>whnf
  refine al rfl ?_
  conv=>whnf
  by_cases e1:p.fault=1
  ·repeat' ((first|refine nI ?_|refine aI ?_|refine tI ?_|refine fI ?_|fail);conv=>whnf)
   refine dI ?_
   conv=>whnf
   repeat' ((first|refine nI ?_|refine aI ?_|refine dz trivial (by omega) ?_|refine dV trivial (by omega) ?_|refine dI ?_|refine dR ?_|refine dP ?_|refine al rfl ?_|refine pI _ rfl ?_|refine ap _ rfl ?_|refine tI ?_|refine fI ?_|refine ah (fun _=>?_) (fun _=>?_))<;>conv=>whnf)
   all_goals
    refine⟨ae ?_,rfl⟩
    unfold pV
    dsimp only
    (repeat' split)<;>omega
  by_cases e2:p.fault=2
  ·repeat' ((first|refine nI ?_|refine aI ?_|refine tI ?_|refine fI ?_|fail);conv=>whnf)
   all_goals try(refine dI ?_)
   all_goals
    conv=>whnf
    repeat' ((first|refine nI ?_|refine aI ?_|refine dz trivial (by omega) ?_|refine dV trivial (by omega) ?_|refine dI ?_|refine dR ?_|refine dP ?_|refine al rfl ?_|refine pI _ rfl ?_|refine ap _ rfl ?_|refine tI ?_|refine fI ?_|refine ah (fun _=>?_) (fun _=>?_))<;>conv=>whnf)
   all_goals
    refine⟨ae ?_,rfl⟩
    unfold pV
    dsimp only
    (repeat' split)<;>omega
  by_cases e3:p.fault=3
  ·repeat' ((first|refine nI ?_|refine aI ?_|refine tI ?_|refine fI ?_|fail);conv=>whnf)
   all_goals try(refine dI ?_)
   all_goals
    conv=>whnf
    repeat' ((first|refine nI ?_|refine aI ?_|refine dz trivial (by omega) ?_|refine dV trivial (by omega) ?_|refine dI ?_|refine dR ?_|refine dP ?_|refine al rfl ?_|refine pI _ rfl ?_|refine ap _ rfl ?_|refine tI ?_|refine fI ?_|refine ah (fun _=>?_) (fun _=>?_))<;>conv=>whnf)
   all_goals
    refine⟨ae ?_,rfl⟩
    unfold pV
    dsimp only
    (repeat' split)<;>omega
  ·repeat' ((first|refine nI ?_|refine aI ?_|refine tI ?_|refine fI ?_|fail);conv=>whnf)
   repeat' ((first|refine nI ?_|refine aI ?_|refine dz trivial (by omega) ?_|refine dV trivial (by omega) ?_|refine dI ?_|refine dR ?_|refine dP ?_|refine al rfl ?_|refine pI _ rfl ?_|refine ap _ rfl ?_|refine tI ?_|refine fI ?_|refine ah (fun _=>?_) (fun _=>?_))<;>conv=>whnf)
   all_goals
    refine⟨ae ?_,rfl⟩
    unfold pV
    dsimp only
    (repeat' split)<;>omega
theorem mB {i n:Int} (h:cL i n=0):0<=i/\i<n:=by
 unfold cL at h;split at h<;>omega
theorem kZ {m v:Int} (h:ew m v=0):-1<=v/\v<m:=by
 unfold ew at h;split at h<;>omega
theorem I7 {m:Int} {g:eg} (h:gE m g=0):(0<=g.message/\g.message<m)/\(1<=g.coef/\g.coef<=100)/\c6 g.bound:=by
 have hz:=cF h
 have h1:=hz (cL g.message m) (by simp)
 have h2:=hz (eK g.coef) (by simp)
 have h3:=hz (je g.bound) (by simp)
 refine⟨mB h1,?_,?_⟩
 ·unfold eK at h2;split at h2<;>omega
 ·unfold je at h3;split at h3
  ·assumption
  ·omega
theorem pW {m:Int} {l:List eg} (h:aG m l=0):∀j,j<l.length->(0<=(l.getD j aE).message/\(l.getD j aE).message<m)/\(1<=(l.getD j aE).coef/\(l.getD j aE).coef<=100)/\c6 (l.getD j aE).bound:=by
 intro j hj
 unfold aG at h
 by_cases h1:cz (l.map (gE m))=0
 ·exact I7 (cF h1 _ (List.mem_map.2 ⟨_,by rw[gD,gL hj];exact List.getElem_mem _,rfl⟩))
 ·rw[if_pos h1] at h;omega
structure gI (p:au) (r:bp):Prop where
 fit:fe r.kind p.topology
 sur:¬il r p.topology
 src:0<=r.src/\r.src<p.states.length
 dst:0<=r.dst/\r.dst<p.states.length
 kin:c7 p r=0
theorem BR {p:au} {i:Nat} {r:bp} (h:cg p i r=0):gI p r:=by
 unfold cg at h
 by_cases h1:¬cx r.name\/gy p.rules i r
 ·rw[if_pos h1] at h;omega
 rw[if_neg h1] at h
 by_cases h2:¬fe r.kind p.topology\/il r p.topology
 ·rw[if_pos h2] at h;omega
 rw[if_neg h2] at h
 have hz:=cF h
 refine⟨?_,fun hs=>h2 (.inr hs),mB (hz _ (by simp)),mB (hz _ (by simp)),hz _ (by simp)⟩
 by_cases hf:fe r.kind p.topology
 ·exact hf
 ·exact absurd (.inl hf) h2
theorem dG {p:au} (h:aB p=0) {i:Nat} (hi:i<p.rules.length):gI p (p.rules.getD i ar):=by
 unfold aB at h
 have ht:x8 p=0:=by
  (repeat' split at h)<;>first|exact h|omega
 have hz:=cF ht (g9 p) (by simp)
 refine BR (i:=i) (cF hz _ (List.mem_map.2 ⟨i,List.mem_range.2 hi,rfl⟩))
structure gu (p:au) (s:bA) (c:aR):Prop where
 big:¬fD p
 wide:ct c=false
 val:aB p=0
 siz:Ah s
 sz:(1<=s.n/\s.n<=8)/\(0<=s.f/\s.f<=s.n)
 adm:li p s
 vc:VC p s c
theorem gu.of {p:au} {s:bA} {c:aR} (hp:¬fD p) (hw:ct c=false) (h:bK p s c=0):gu p s c:=by
 unfold bK at h
 by_cases h1:bG p s≠0
 ·rw[if_pos h1] at h;omega
 rw[if_neg h1] at h
 have h2:=hJ (p:=p) (s:=s) (by omega)
 refine⟨hp,hw,h2.1,by unfold Ah;omega,by omega,h2.2.1,?_⟩
 unfold pS at h
 by_cases h3:VC p s c
 ·exact h3
 ·rw[if_neg h3] at h;omega
theorem gu.sent {p:au} {s:bA} {c:aR} (h:gu p s c):jC c.sent 1048577/\jC c.faulty 1048577:=by
 refine⟨h.vc.sen,fun j hj=>?_⟩
 have:=h.vc.fau j hj
 have e:qO p<=1048576:=by unfold qO;split<;>omega
 omega
theorem zD (l:g7) (s:bA) (hl:c6 l) (hs:Ah s):ab Tryz.prog 82 [.agg (bM l), .agg (cj s)] (fun u=>u= .tup [.int .i64 (iK l s), .int .i64 0]):=by
 have hs':=hs
 unfold Ah at hs'
 refine ab.intro ac ag Tryz.func82 rfl (by decide) ?_;(conv=>whnf)
 refine al rfl ?_
 conv=>whnf
 refine al rfl ?_
 conv=>whnf
 refine dC (wM l) (fun _=>?_) (fun _=>?_)<;>(conv=>whnf)
 case refine_2=>rename_i h;exact absurd hl h
 refine dC (ax _ _ _) (fun _=>?_) (fun _=>?_)<;>(conv=>whnf)
 case refine_2=>rename_i h;omega
 refine dC (ax _ _ _) (fun _=>?_) (fun _=>?_)<;>(conv=>whnf)
 case refine_2=>rename_i h;omega
 refine dC (ax _ _ _) (fun _=>?_) (fun _=>?_)<;>(conv=>whnf)
 case refine_2=>rename_i h;omega
 (refine oP (BI l s hl hs) ?_;conv=>whnf)
 exact⟨rfl,rfl⟩
def ny (p:au) (s:bA) (c:aR) (f:Bool) (g:eg):Prop:=iK g.bound s<=g.coef*pV p s c g.message f
def s4 (p:au) (s:bA) (c:aR) (r:bp) (f:Bool):Prop:=∀j,j<r.guards.length->ny p s c f (r.guards.getD j aE)
noncomputable instance decGrd (p:au) (s:bA) (c:aR) (r:bp) (f:Bool):Decidable (s4 p s c r f):=Classical.propDecidable _
theorem F9 {a b:Int} (ha:1<=a/\a<=100) (hb:0<=b/\b<=2097152):0<=a*b/\a*b<=209715200:=by
 have h1:0<=a*b:=Int.mul_nonneg (by omega) hb.1
 have h2:a*b<=100*2097152:=Int.mul_le_mul (by omega) hb.2 hb.1 (by omega)
 omega
theorem ER (p:au) (s:bA) (c:aR) (r:bp) (f:Bool) (h:gu p s c) (hr:¬my r) (hg:aG p.messages.length r.guards=0):ab Tryz.prog 198 [.agg (pU p s c), .agg (dF r), .bool f] (fun u=>u= .bool (decide (s4 p s c r f))):=by
 have hle:=b7 h.big
 have hbr:=fE hr
 have hgs:=pW hg
 have hsn:=h.vc.snl
 have hfa:=h.vc.fal
 have hz:=h.siz
 unfold Ah at hz
 refine ab.intro ac ag Tryz.func198 rfl (by decide) ?_;(conv=>whnf)
 refine al rfl ?_
 conv=>whnf
 refine al rfl ?_
 conv=>whnf
 refine aH.loopF ac ag (fun k:Nat=>k<=r.guards.length/\∀j,j<k->ny p s c f (r.guards.getD j aE)) (fun k=>[(14, .int .i64 (k:Int))]) (fun _=>[]) (fun k=>r.guards.length-k) 0 ⟨by omega,fun j hj=>by omega⟩ ?_;conv=>whnf
 refine⟨sI,?_⟩
 rintro k ⟨hk,ha⟩
 conv=>whnf
 refine ah ?_ ?_<;>(intro h1;conv=>whnf)
 ·obtain⟨g1,g2,g3⟩:=hgs k (by omega)
  have nok:¬ny p s c f (r.guards.getD k aE)->¬s4 p s c r f:=fun hn hb=>hn (hb k (by omega))
  have next:ny p s c f (r.guards.getD k aE)->∀j,j<k+1->ny p s c f (r.guards.getD j aE):=fun hn j hj=>by
   by_cases e:j=k
   ·subst e;exact hn
   ·exact ha j (by omega)
  refine nI ?_
  rw[tN]
  generalize r.guards.getD k aE=g at g1 g2 g3 nok next
  have hb:=BP (p:=p) (s:=s) (c:=c) (m:=g.message) f h.sent.1 h.sent.2 (by omega) (by omega)
  have hm:=F9 g2 hb
  conv=>whnf
  (refine oP (rI g.bound s g3 h.siz) ?_;conv=>whnf)
  refine dI ?_
  conv=>whnf
  (refine oC (BQ p s c g.message f h.sent.1 h.sent.2 (by omega) (by omega)) ?_;conv=>whnf)
  repeat' ((first|refine nI ?_|refine aI ?_|refine tI ?_|refine fI ?_|fail);conv=>whnf)
  refine ah ?_ ?_<;>(intro h2;conv=>whnf)
  ·exact⟨aq (nok (by unfold ny;omega)),rfl⟩
  ·repeat' ((first|refine nI ?_|refine aI ?_|refine tI ?_|refine fI ?_|fail);conv=>whnf)
   exact⟨k+1,sI,⟨by omega,next (by unfold ny;omega)⟩,by dsimp only;omega⟩
 ·exact⟨az (fun j hj=>ha j (by omega)),rfl⟩
def BS (c:aR) (l:List Int) (i:Int) (k:Nat):Prop:=l.length=0\/∃j,j<k/\(j:Int)≠i/\c.states.getD j 0∈l
def Ai (c:aR) (l:List Int) (i:Int) (k:Nat):Prop:=l.length=0\/∀j,j<k->(j:Int)≠i->c.states.getD j 0∈l
def wV (c:aR) (r:bp) (i:Int):Prop:=BS c r.some_ i c.states.length/\Ai c r.forall_ i c.states.length
noncomputable instance decOth (c:aR) (r:bp) (i:Int):Decidable (wV c r i):=Classical.propDecidable _
section
variable {c:aR} {l:List Int} {i:Int} {k:Nat}
theorem ve:BS c l i 0↔l.length=0:=⟨fun h=>h.elim id (fun⟨j,hj,_⟩=>by omega), .inl⟩
theorem vf:Ai c l i 0:=.inr fun j hj=>by omega
theorem pX (h:(k:Int)=i):BS c l i (k+1)↔BS c l i k:=
 ⟨fun h1=>h1.elim .inl (fun⟨j,hj,hn,hm⟩=>.inr ⟨j,by omega,hn,hm⟩),fun h1=>h1.elim .inl (fun⟨j,hj,hn,hm⟩=>.inr ⟨j,by omega,hn,hm⟩)⟩
theorem pY (h:(k:Int)=i):Ai c l i (k+1)↔Ai c l i k:=
 ⟨fun h1=>h1.elim .inl (fun h2=>.inr fun j hj hn=>h2 j (by omega) hn),fun h1=>h1.elim .inl (fun h2=>.inr fun j hj hn=>h2 j (by omega) hn)⟩
theorem s5 (h:BS c l i k):BS c l i (k+1):=h.elim .inl (fun⟨j,hj,hn,hm⟩=>.inr ⟨j,by omega,hn,hm⟩)
theorem s6 (h:(k:Int)≠i) (hm:c.states.getD k 0∈l):BS c l i (k+1):=.inr ⟨k,by omega,h,hm⟩
theorem wW (h:¬BS c l i k) (hm:c.states.getD k 0∉l):¬BS c l i (k+1):=fun h1=>h1.elim (fun e=>h (.inl e)) (fun⟨j,hj,hn,hmm⟩=>by
 by_cases e:j=k
 ·subst e;exact hm hmm
 ·exact h (.inr ⟨j,by omega,hn,hmm⟩))
theorem ES (h:¬Ai c l i k):¬Ai c l i (k+1):=fun h1=>h (h1.elim .inl (fun h2=>.inr fun j hj hn=>h2 j (by omega) hn))
theorem oE (h:l.length=0):Ai c l i k:=.inl h
theorem oF (h:Ai c l i k) (hm:c.states.getD k 0∈l):Ai c l i (k+1):=h.elim .inl (fun h2=>.inr fun j hj hn=>by
 by_cases e:j=k
 ·subst e;exact hm
 ·exact h2 j (by omega) hn)
theorem G2 (h0:¬l.length=0) (h:(k:Int)≠i) (hm:c.states.getD k 0∉l):¬Ai c l i (k+1):=fun h1=>h1.elim h0 (fun h2=>hm (h2 k (by omega) h))
end
theorem nz {p:Prop} (h:p):(true=true↔p):=⟨fun _=>h,fun _=>rfl⟩
theorem s7 {p:Prop} (h:¬p):(false=true↔p):=⟨fun e=>(by cases e),fun e=>absurd e h⟩
theorem oo {p:Prop} (h:false=true↔p):¬p:=fun hp=>by have:=h.2 hp;cases this
theorem ET (p:au) (s:bA) (c:aR) (r:bp) (i:Int) (hw:ct c=false) (hr:¬my r):ab Tryz.prog 199 [.agg (pU p s c), .agg (dF r), .int .i64 i] (fun u=>u= .bool (decide (wV c r i))):=by
 have hbr:=fE hr
 have hc:=b8 hw
 refine ab.intro ac ag Tryz.func199 rfl (by decide) ?_;(conv=>whnf)
 refine al rfl ?_
 conv=>whnf
 refine al rfl ?_
 conv=>whnf
 refine Iw ?_
 conv=>whnf
 refine aH.loopF ac ag (fun x:Nat×Bool×Bool=>x.1<=c.states.length/\(x.2.1=true↔BS c r.some_ i x.1)/\(x.2.2=true↔Ai c r.forall_ i x.1)) (fun x=>[(19, .int .i64 (x.1:Int)),(7, .bool x.2.1),(8, .bool x.2.2)]) (fun _=>[]) (fun x=>c.states.length-x.1) (0,decide ((r.some_.length:Int)=0),true) ⟨Nat.zero_le _,by rw[ve,decide_eq_true_iff];omega,nz vf⟩ ?_;conv=>whnf
 refine⟨sI,?_⟩
 rintro⟨k,e,a⟩ ⟨hk,he,ha⟩
 dsimp only at hk he ha⊢
 cases e<;>cases a
 all_goals
  conv=>whnf
  refine ah ?_ ?_<;>(intro h1;conv=>whnf)
 case' false.false.refine_2=>exact⟨aq (fun hh=>oo he (by rw[show k=c.states.length by omega];exact hh.1)),rfl⟩
 case' false.true.refine_2=>exact⟨aq (fun hh=>oo he (by rw[show k=c.states.length by omega];exact hh.1)),rfl⟩
 case' true.false.refine_2=>exact⟨aq (fun hh=>oo ha (by rw[show k=c.states.length by omega];exact hh.2)),rfl⟩
 case' true.true.refine_2=>exact⟨az ⟨by have:=he.1 rfl;rwa [show k=c.states.length by omega] at this,by have:=ha.1 rfl;rwa [show k=c.states.length by omega] at this⟩,rfl⟩
 all_goals
  refine nI ?_
  rw[tN]
  conv=>whnf
  refine ah ?_ ?_<;>(intro h2;conv=>whnf)
  case refine_1=>
   repeat' ((first|refine nI ?_|refine aI ?_|refine tI ?_|refine fI ?_|fail);conv=>whnf)
   exact⟨(k+1,_,_),sI,⟨by dsimp only;omega,he.trans (pX h2).symm,ha.trans (pY h2).symm⟩,by dsimp only;omega⟩
 case' false.false.refine_1=>
  refine dC (bV r.some_ _ (by omega)) (fun _=>?_) (fun _=>?_)<;>(conv=>whnf)
  case' refine_1=>have hE:=nz (s6 h2 (by assumption))
  case' refine_2=>have hE:=s7 (wW (oo he) (by assumption))
 case' false.true.refine_1=>
  refine dC (bV r.some_ _ (by omega)) (fun _=>?_) (fun _=>?_)<;>(conv=>whnf)
  case' refine_1=>have hE:=nz (s6 h2 (by assumption))
  case' refine_2=>have hE:=s7 (wW (oo he) (by assumption))
 case' true.false.refine_1=>have hE:=nz (s5 (he.1 rfl))
 case' true.true.refine_1=>have hE:=nz (s5 (he.1 rfl))
 all_goals first
  |(refine ah ?_ ?_<;>(intro h3;conv=>whnf)
    ·repeat' ((first|refine nI ?_|refine aI ?_|refine tI ?_|refine fI ?_|fail);conv=>whnf)
     exact⟨(k+1,_,_),sI,⟨by dsimp only;omega,hE,nz (oE (by omega))⟩,by dsimp only;omega⟩
    ·refine dC (bV r.forall_ _ (by omega)) (fun _=>?_) (fun _=>?_)<;>(conv=>whnf)
     ·rename_i h4
      repeat' ((first|refine nI ?_|refine aI ?_|refine tI ?_|refine fI ?_|fail);conv=>whnf)
      exact⟨(k+1,_,_),sI,⟨by dsimp only;omega,hE,nz (oF (ha.1 rfl) h4)⟩,by dsimp only;omega⟩
     ·rename_i h4
      repeat' ((first|refine nI ?_|refine aI ?_|refine tI ?_|refine fI ?_|fail);conv=>whnf)
      exact⟨(k+1,_,_),sI,⟨by dsimp only;omega,hE,s7 (G2 (by omega) h2 h4)⟩,by dsimp only;omega⟩)
  |(skip
    repeat' ((first|refine nI ?_|refine aI ?_|refine tI ?_|refine fI ?_|fail);conv=>whnf)
    exact⟨(k+1,_,_),sI,⟨by dsimp only;omega,hE,s7 (ES (oo ha))⟩,by dsimp only;omega⟩)
def zE (c:aR) (l:List Int) (x:Int):Prop:=l.length=0\/(0<=x/\c.states.getD x.toNat 0∈l)
noncomputable instance decDem (c:aR) (l:List Int) (x:Int):Decidable (zE c l x):=Classical.propDecidable _
theorem BT (p:au) (s:bA) (c:aR) (l:List Int) (x:Int) (hl:l.length<=60) (hx:x<c.states.length) (hw:ct c=false):ab Tryz.prog 201 [.agg (pU p s c), .sl 0 an l, .int .i64 x] (fun u=>u= .bool (decide (zE c l x))):=by
 have hc:=b8 hw
 refine ab.intro ac ag Tryz.func201 rfl (by decide) ?_;(conv=>whnf)
 refine al rfl ?_
 conv=>whnf
 refine ah ?_ ?_<;>(intro h1;conv=>whnf)
 ·exact⟨az (.inl (by omega)),rfl⟩
 refine ah ?_ ?_<;>(intro h2;conv=>whnf)
 ·refine nI ?_
  conv=>whnf
  refine dC (bV l _ (by omega)) (fun _=>?_) (fun _=>?_)<;>(conv=>whnf)
  ·rename_i h3;exact⟨az (.inr ⟨h2,h3⟩),rfl⟩
  ·rename_i h3;exact⟨aq (fun h=>h.elim (by omega) (fun h=>h3 h.2)),rfl⟩
 ·exact⟨aq (fun h=>h.elim (by omega) (fun h=>h2 h.1)),rfl⟩
theorem pZ (c:aR) (l:List Int) (x:Int) (hl:l.length<=60) (hx:x<c.states.length) (hw:ct c=false):ab Tryz.prog 221 [.agg (aW c), .sl 0 an l, .int .i64 x] (fun u=>u= .bool (decide (zE c l x))):=by
 have hc:=b8 hw
 refine ab.intro ac ag Tryz.func221 rfl (by decide) ?_;(conv=>whnf)
 refine al rfl ?_
 conv=>whnf
 refine ah ?_ ?_<;>(intro h1;conv=>whnf)
 ·exact⟨az (.inl (by omega)),rfl⟩
 refine ah ?_ ?_<;>(intro h2;conv=>whnf)
 ·refine nI ?_
  conv=>whnf
  refine dC (zy l _ (by omega)) (fun _=>?_) (fun _=>?_)<;>(conv=>whnf)
  ·rename_i h3;exact⟨az (.inr ⟨h2,h3⟩),rfl⟩
  ·rename_i h3;exact⟨aq (fun h=>h.elim (by omega) (fun h=>h3 h.2)),rfl⟩
 ·exact⟨aq (fun h=>h.elim (by omega) (fun h=>h2 h.1)),rfl⟩
end Go.Proofs.YtnjggjhkfncnlaaGreatDoor
namespace Go.Proofs.YtnjggjhkfncnlaaGreatDoor
theorem shp.leaf {l:List Int} (h:shp l) {i:Nat} (hi:i<l.length) (h0:l.getD i 0=0):bo l i=i+1:=by
 obtain⟨e,h3,h4⟩:=h.at hi
 rw[fW hi,cE 0,if_pos h0,fc,Option.some.injEq] at e
 have:=congrArg List.length e
 simp only[List.length_drop] at this
 omega
theorem shp.root {l:List Int} (h:shp l) (hl:0<l.length):bo l 0=l.length:=by
 obtain⟨e,h3,h4⟩:=h.at hl
 rw[List.drop_zero,show bR 1 l=some [] from h,Option.some.injEq] at e
 have:=congrArg List.length e
 simp only[List.length_drop,List.length_nil] at this
 omega
theorem shp.parAll {l:List Int} (h:shp l):∀i,i<l.length->(0<i->0<=cw l i/\cw l i<i)/\(bo l i<l.length->0<=cw l (bo l i)/\cw l (bo l i)<i):=by
 intro i
 induction i using Nat.strongRecOn with
 |_ i ih=>
  intro hi
  have one:0<i->0<=cw l i/\cw l i<i:=by
   intro h0
   obtain⟨j,rfl⟩:∃j,i=j+1:=⟨i-1,by omega⟩
   rcases h.zeroTwo (i:=j) (by omega) with h2|h2
   ·have e:=h.leaf (by omega) h2
    have:=(ih j (by omega) (by omega)).2 (by omega)
    rw[e] at this
    omega
   ·have:=qJ h (i:=j) (by omega) h2
    omega
  refine⟨one,fun he=>?_⟩
  by_cases h0:i=0
  ·subst h0
   have:=h.root (by omega)
   omega
  ·obtain⟨a,b⟩:=one (by omega)
   rcases pE l i i with hc|⟨k,hk,hc,hp⟩
   ·unfold cw at a;omega
   ·simp only[c0,Bool.and_eq_true,Bool.or_eq_true,decide_eq_true_eq] at hp
    obtain⟨h2,hp⟩:=hp
    have ht:=h.two (i:=k) (by omega) h2
    rcases hp with hp|hp
    ·have:=pF h (i:=k) (by omega) h2
     rw[hp] at this
     omega
    ·rw[hp] at ht
     have:=(ih k hk (by omega)).2 (by omega)
     rw[<-ht.2.2.2.1] at this
     omega
theorem s8 (l:List Int):cw l 0=-1:=rfl
theorem F' {t:Int} {l:List Int} {n i:Nat} (hi:i<n):-1<=qK t l n i/\qK t l n i<n:=by
 unfold qK
 by_cases h:t=4/\pH t l n=true
 ·rw[if_pos h]
  unfold cw
  rcases pE l i i with hc|⟨k,hk,hc,_⟩<;>omega
 ·rw[if_neg h];omega
theorem G3 {t:Int} {l:List Int} {n:Nat} (h:t=4) (hs:shp l) (hl:l.length=n):pH t l n=true:=by
 unfold pH;rw[decide_eq_true_iff];exact fun _=>⟨hs,hl⟩
set_option maxRecDepth 100000
set_option maxHeartbeats 8000000
structure dH where
 rule:Int
 process:Int
 partner:Int
def de (x:dH):List AV:=[.int .i64 x.rule, .int .i64 x.process, .int .i64 x.partner]
def nF (p:au) (c:aR) (i:Nat):Int:=pJ p.topology c.shape c.states.length i
def nS (p:au) (c:aR) (i:Nat):Int:=pK p.topology c.shape c.states.length i
def nP (p:au) (c:aR) (i:Nat):Int:=qK p.topology c.shape c.states.length i
def zF (p:au) (c:aR) (r:bp) (i:Nat):Prop:=(r.at_=1->i=0)/\(r.at_=2->(p.topology=2->nS p c i=-1)/\(p.topology=4->nF p c i=-1))
noncomputable instance decPos (p:au) (c:aR) (r:bp) (i:Nat):Decidable (zF p c r i):=Classical.propDecidable _
def s9 (p:au) (c:aR) (r:bp) (i:Nat) (j:Int):Prop:=if r.direction=1 then nS p c i=j else if r.direction=2 then nF p c i=j else if r.direction=3 then(nF p c i=j\/nS p c i=j) else nP p c i=j
noncomputable instance decPas (p:au) (c:aR) (r:bp) (i:Nat) (j:Int):Decidable (s9 p c r i j):=Classical.propDecidable _
def BU (c:aR) (r:bp) (x:dH):Prop:=0<=x.partner/\x.partner<c.states.length/\x.partner≠x.process/\c.states.getD x.partner.toNat 0=r.pfrom
def G4 (p:au) (c:aR) (r:bp) (i:Nat):Prop:=zF p c r i/\zE c r.left (nF p c i)/\zE c r.right (nS p c i)/\zE c r.parent (nP p c i)
def wX (p:au) (s:bA) (c:aR) (r:bp) (x:dH) (f:Bool):Prop:=
 if r.kind=2\/r.kind=5 then BU c r x/\(r.kind=2\/s9 p c r x.process.toNat x.partner)
 else x.partner=-1/\(if r.kind=1 then s4 p s c r f/\wV c r x.process else if r.kind=3 then True else G4 p c r x.process.toNat)
def I8 (p:au) (s:bA) (c:aR) (r:bp) (x:dH) (f:Bool):Prop:=c.states.getD x.process.toNat 0=r.src/\(r.read=-1\/c.value=r.read)/\wX p s c r x f
def j6 (p:au) (s:bA) (c:aR) (x:dH) (f:Bool):Prop:=((0<=x.rule/\x.rule<p.rules.length)/\(0<=x.process/\x.process<c.states.length))/\I8 p s c (p.rules.getD x.rule.toNat ar) x f
noncomputable instance decEn (p:au) (s:bA) (c:aR) (x:dH) (f:Bool):Decidable (j6 p s c x f):=Classical.propDecidable _
theorem wY {p:au} (h:aB p=0):1<=p.topology/\p.topology<=4:=by
 unfold aB at h
 by_cases h1:¬cx p.name
 ·rw[if_pos h1] at h;omega
 rw[if_neg h1] at h
 by_cases h2:p.topology<1\/4<p.topology\/p.fault<0\/3<p.fault
 ·rw[if_pos h2] at h;omega
 ·omega
theorem wZ {p:au} (h:aB p=0) (ht:p.topology≠1):p.messages.length=0/\p.values.length=0/\p.resilience.length=0/\p.fault=0:=by
 unfold aB at h
 (repeat' split at h)<;>omega
theorem gI.read {p:au} {r:bp} (h:gI p r):-1<=r.read/\-1<=r.write/\r.read<p.values.length/\r.write<p.values.length:=by
 have hk:=h.kin
 have hs:=h.sur
 have hf:=h.fit
 unfold fe at hf
 unfold c7 at hk
 by_cases k1:r.kind=1
 ·rw[if_pos k1] at hk
  have hz:=cF hk
  have a:=kZ (hz (ew p.values.length r.read) (by simp))
  have b:=kZ (hz (ew p.values.length r.write) (by simp))
  omega
 rw[if_neg k1] at hk
 by_cases k2:r.kind=2
 ·rw[if_pos k2] at hk
  have hz:=cF hk
  have a:=kZ (hz (ew p.values.length r.read) (by simp))
  have b:=kZ (hz (ew p.values.length r.write) (by simp))
  omega
 rw[if_neg k2] at hk
 by_cases k3:r.kind=3
 ·rw[if_pos k3] at hk
  have hz:=cF hk
  have a:=kZ (hz (ew p.values.length r.read) (by simp))
  have b:=kZ (hz (ew p.values.length r.write) (by simp))
  omega
 ·unfold il at hs
  omega
theorem gI.guards {p:au} {r:bp} (h:gI p r) (hk:r.kind=1):aG p.messages.length r.guards=0:=by
 have:=h.kin
 unfold c7 at this
 rw[if_pos hk] at this
 exact cF this _ (by simp)
theorem gI.at4 {p:au} {r:bp} (h:gI p r) (hk:r.kind=4):BF r.at_ p.topology=0:=by
 have:=h.kin
 unfold c7 at this
 rw[if_neg (by omega),if_neg (by omega),if_neg (by omega),if_pos hk] at this
 exact cF this _ (by simp)
theorem G5 {p:au} {s:bA} {c:aR} {r:bp} {i:Nat} (h:gu p s c) (hr:gI p r) (hk:r.kind=4) (hi:i<c.states.length):
  zF p c r i↔(r.at_=0\/(r.at_=1/\p.topology=4/\nP p c i<0)\/(r.at_=1/\p.topology≠4/\nF p c i<0)\/(r.at_≠0/\r.at_≠1/\nS p c i<0)):=by
 have hat:=hr.at4 hk
 have ht:=wY h.val
 have hf:=hr.fit
 unfold fe at hf
 unfold BF at hat
 have hat2:(r.at_=0\/r.at_=1\/r.at_=2)/\(r.at_≠0->p.topology≠3):=by
  split at hat<;>omega
 have htop:p.topology=2\/p.topology=3\/p.topology=4:=by omega
 have lin:p.topology=2->nF p c i=(i:Int)-1/\nS p c i=if i+1=c.states.length then -1 else(i:Int)+1:=fun e=>by
  unfold nF nS pJ pK
  rw[if_pos e,if_pos e]
  exact⟨rfl,rfl⟩
 have tre:p.topology=4->nF p c i=iR c.shape i/\nS p c i=ge c.shape i/\nP p c i=cw c.shape i/\(i=0↔cw c.shape i<0):=fun e=>by
  obtain⟨e1,e2⟩:=h.vc.tre e
  have e3:=h.vc.len
  have hlen:c.shape.length=c.states.length:=by
   unfold iU at e3
   have:=wZ h.val (by omega)
   rw[if_neg (by omega)] at e3
   omega
  have hl:=G3 e e2 hlen
  unfold nF nS nP pJ pK qK
  rw[if_neg (by omega),if_neg (by omega),if_pos ⟨e,hl⟩,if_neg (by omega),if_neg (by omega),if_pos ⟨e,hl⟩,if_pos ⟨e,hl⟩]
  refine⟨rfl,rfl,rfl,?_⟩
  constructor
  ·intro e0;subst e0;rw[s8];omega
  ·intro hlt
   by_cases e0:i=0
   ·exact e0
   ·have:=(e2.parAll i (by omega)).1 (by omega)
    omega
 unfold zF
 rcases htop with e|e|e
 ·obtain⟨a,b⟩:=lin e
  by_cases e1:i+1=c.states.length
  ·rw[if_pos e1] at b;constructor<;>intro hh<;>omega
  ·rw[if_neg e1] at b;constructor<;>intro hh<;>omega
 ·constructor<;>intro hh<;>omega
 ·obtain⟨a,b,d,g⟩:=tre e
  unfold iR at a
  unfold ge at b
  by_cases e1:c.shape.getD i 0=2
  ·rw[if_pos e1] at a b;constructor<;>intro hh<;>omega
  ·rw[if_neg e1] at a b;constructor<;>intro hh<;>omega
theorem zG (p:au) (s:bA) (c:aR) (r:bp) (i:Nat) (h:gu p s c) (hr:gI p r) (hk:r.kind=4) (hi:i<c.states.length):ab Tryz.prog 200 [.agg (pU p s c), .agg (dF r), .int .i64 (i:Int)] (fun u=>u= .bool (decide (zF p c r i))):=by
 have hpe:=G5 h hr hk hi
 have f1:((List.range c.states.length).map (pJ p.topology c.shape c.states.length)).length=c.states.length:=by simp
 have f2:((List.range c.states.length).map (pK p.topology c.shape c.states.length)).length=c.states.length:=by simp
 have f3:((List.range c.states.length).map (qK p.topology c.shape c.states.length)).length=c.states.length:=by simp
 unfold nF nS nP at hpe
 refine ab.intro ac ag Tryz.func200 rfl (by decide) ?_;(conv=>whnf)
 refine al rfl ?_
 conv=>whnf
 refine al rfl ?_
 conv=>whnf
 refine ah ?_ ?_<;>(intro h1;conv=>whnf)
 ·exact⟨az (hpe.2 (.inl h1)),rfl⟩
 by_cases h2:r.at_=1
 ·by_cases h3:p.topology=4
  ·repeat' ((first|refine nI ?_|refine aI ?_|refine tI ?_|refine fI ?_|fail);conv=>whnf)
   rw[tN,aX _ _ _ hi]
   refine ah ?_ ?_<;>(intro h4;conv=>whnf)
   ·exact⟨az (hpe.2 (by omega)),rfl⟩
   ·exact⟨aq (fun hh=>by have:=hpe.1 hh;omega),rfl⟩
  ·repeat' ((first|refine nI ?_|refine aI ?_|refine tI ?_|refine fI ?_|fail);conv=>whnf)
   rw[tN,aX _ _ _ hi]
   refine ah ?_ ?_<;>(intro h4;conv=>whnf)
   ·exact⟨az (hpe.2 (by omega)),rfl⟩
   ·exact⟨aq (fun hh=>by have:=hpe.1 hh;omega),rfl⟩
 ·by_cases h3:p.topology=4
  all_goals
   repeat' ((first|refine nI ?_|refine aI ?_|refine tI ?_|refine fI ?_|fail);conv=>whnf)
   rw[tN,aX _ _ _ hi]
   refine ah ?_ ?_<;>(intro h4;conv=>whnf)
   ·exact⟨az (hpe.2 (by omega)),rfl⟩
   ·exact⟨aq (fun hh=>by have:=hpe.1 hh;omega),rfl⟩
theorem EU (p:au) (s:bA) (c:aR) (r:bp) (i:Nat) (j:Int) (hi:i<c.states.length):ab Tryz.prog 197 [.agg (pU p s c), .agg (dF r), .int .i64 (i:Int), .int .i64 j] (fun u=>u= .bool (decide (s9 p c r i j))):=by
 have f1:((List.range c.states.length).map (pJ p.topology c.shape c.states.length)).length=c.states.length:=by simp
 have f2:((List.range c.states.length).map (pK p.topology c.shape c.states.length)).length=c.states.length:=by simp
 have f3:((List.range c.states.length).map (qK p.topology c.shape c.states.length)).length=c.states.length:=by simp
 have he:s9 p c r i j=(if r.direction=1 then pK p.topology c.shape c.states.length i=j else if r.direction=2 then pJ p.topology c.shape c.states.length i=j else if r.direction=3 then(pJ p.topology c.shape c.states.length i=j\/pK p.topology c.shape c.states.length i=j) else qK p.topology c.shape c.states.length i=j):=rfl
 refine ab.intro ac ag Tryz.func197 rfl (by decide) ?_;(conv=>whnf)
 refine al rfl ?_
 conv=>whnf
 refine al rfl ?_
 conv=>whnf
 by_cases h1:r.direction=1
 ·rw[if_pos h1] at he
  repeat' ((first|refine nI ?_|refine aI ?_|refine tI ?_|refine fI ?_|fail);conv=>whnf)
  rw[tN,aX _ _ _ hi]
  refine ah ?_ ?_<;>(intro h4;conv=>whnf)
  ·exact⟨az (by rw[he];exact h4),rfl⟩
  ·exact⟨aq (by rw[he];exact h4),rfl⟩
 rw[if_neg h1] at he
 by_cases h2:r.direction=2
 ·rw[if_pos h2] at he
  repeat' ((first|refine nI ?_|refine aI ?_|refine tI ?_|refine fI ?_|fail);conv=>whnf)
  rw[tN,aX _ _ _ hi]
  refine ah ?_ ?_<;>(intro h4;conv=>whnf)
  ·exact⟨az (by rw[he];exact h4),rfl⟩
  ·exact⟨aq (by rw[he];exact h4),rfl⟩
 rw[if_neg h2] at he
 by_cases h3:r.direction=3
 ·rw[if_pos h3] at he
  repeat' ((first|refine nI ?_|refine aI ?_|refine tI ?_|refine fI ?_|fail);conv=>whnf)
  rw[tN,aX _ _ _ hi]
  refine ah ?_ ?_<;>(intro h4;conv=>whnf)
  ·exact⟨az (by rw[he];exact .inl h4),rfl⟩
  refine nI ?_
  rw[tN,aX _ _ _ hi]
  conv=>whnf
  refine ah ?_ ?_<;>(intro h5;conv=>whnf)
  ·exact⟨az (by rw[he];exact .inr h5),rfl⟩
  ·exact⟨aq (by rw[he];exact fun h=>h.elim h4 h5),rfl⟩
 ·rw[if_neg h3] at he
  repeat' ((first|refine nI ?_|refine aI ?_|refine tI ?_|refine fI ?_|fail);conv=>whnf)
  rw[tN,aX _ _ _ hi]
  refine ah ?_ ?_<;>(intro h4;conv=>whnf)
  ·exact⟨az (by rw[he];exact h4),rfl⟩
  ·exact⟨aq (by rw[he];exact h4),rfl⟩
end Go.Proofs.YtnjggjhkfncnlaaGreatDoor
