import Derived.Test.YtokjgegkhlkopaaGreatDoorM5
set_option linter.unusedVariables false
set_option linter.unusedSimpArgs false
namespace Go.Proofs.YtokjgegkhlkopaaGreatDoor
section
set_option maxRecDepth 100000
set_option maxHeartbeats 8000000
def Ms (q:bn) (c:ap):Prop:=∀j,j<q.bad.length->(q.bad.getD j i5).least<=ET (q.bad.getD j i5).states (c.states.take c.correct.toNat)
def s9 (p:ao) (q:bn) (c:ap):Prop:=Ms q c/\(q.adjacent.length=0\/Kj p c q.adjacent)
noncomputable instance decBad (p:ao) (q:bn) (c:ap):Decidable (s9 p q c):=Classical.propDecidable _
def ta:Sh:=f7 (.int .nil)
def Hz:Sh:=.str (.int (f7 (.sl ta (f7 (f7 .nil)))))
theorem Kk:sY Tryz.prog 9 30=some Hz:=by kernel_rfl
def xD:jC ta->Kh
 |(a,b,_)=>⟨nums a,b⟩
def I':jC Hz->bn
 |(a,b,c,d,e,f,_)=>⟨a,b,nums c,List.map xD d,nums e,nums f⟩
section
variable {S:ag}
theorem Kl (y:jC ta):yE S (cy ta y) (rF (xD y)):=by
 obtain⟨a,b,⟨⟩⟩:=y
 exact⟨Cv.ints a,Cv.refl _ _,trivial⟩
theorem AR (l:List (jC ta)):Cv S (.sl (jQ ta) (cy ta) l) (.sl i5 rF (l.map xD)):=
 Cv.sl (d:=jQ ta) (enc:=cy ta) i5 rF xD fun y _=>⟨Kl y,rfl⟩
theorem HA (y:jC Hz):yE S (cy Hz y) (eh (I' y)):=by
 obtain⟨a,b,c,d,e,f,⟨⟩⟩:=y
 exact⟨Cv.refl _ _,Cv.refl _ _,Cv.ints c,AR d,Cv.ints e,Cv.ints f,trivial⟩
end
end
section
set_option maxRecDepth 100000
set_option maxHeartbeats 8000000
def NG (p:ao) (c:ap):List AV:=[.sl 0 aD ((List.range c.states.length).map (rk p.topology c.shape c.states.length)), .sl 0 aD ((List.range c.states.length).map (p7 p.topology c.shape c.states.length)), .sl 0 aD ((List.range c.states.length).map (s2 p.topology c.shape c.states.length))]
def iP (p:ao) (s:az) (c:ap):List AV:=bf p++(b7 s++(bg c++NG p c))
theorem Km (p:ao) (s:az) (c:ap) (hw:bc c=false):ae Tryz.prog 85 [.agg (bf p), .agg (b7 s), .agg (bg c)] (fun u=>u= .agg (iP p s c)):=by
 have hc:=aL hw
 refine ae.intro ab ac Tryz.func85 rfl (by decide) ?_;(conv=>whnf)
 refine am rfl ?_
 conv=>whnf
 refine am rfl ?_
 conv=>whnf
 refine am rfl ?_
 conv=>whnf
 (refine oP (Md p.topology c.shape c.states.length (by omega) (by omega)) ?_;conv=>whnf)
 exact⟨rfl,rfl⟩
def rK (p:ao) (s:az) (c:ap) (m:Int):Bool->Int
 |false=>c.sent.getD m.toNat 0+(if p.fault=1\/p.fault=2 then c.faulty.getD m.toNat 0 else if p.fault=3 then s.f else 0)
 |true=>c.sent.getD m.toNat 0+(if p.fault=1 then c.faulty.getD m.toNat 0 else 0)
theorem EV {p:ao} {s:az} {c:ap} {m:Int} (f:Bool) (h1:kX c.sent 1048577) (h2:kX c.faulty 1048577) (hm:0<=m/\m<c.sent.length/\m<c.faulty.length) (hs:0<=s.f/\s.f<=1048576):0<=rK p s c m f/\rK p s c m f<=2097152:=by
 have a1:=h1 m.toNat (by omega)
 have a2:=h2 m.toNat (by omega)
 cases f<;>unfold rK<;>dsimp only<;>(repeat' split)<;>omega
theorem EW (p:ao) (s:az) (c:ap) (m:Int) (f:Bool) (h1:kX c.sent 1048577) (h2:kX c.faulty 1048577) (hm:0<=m/\m<c.sent.length/\m<c.faulty.length) (hs:0<=s.f/\s.f<=1048576):ae Tryz.prog 181 [.agg (iP p s c), .int .i64 m, .bool f] (fun u=>u= .int .i64 (rK p s c m f)):=by
 have a1:=h1 m.toNat (by omega)
 have a2:=h2 m.toNat (by omega)
 cases f
 all_goals
  refine ae.intro ab ac Tryz.func181 rfl (by decide) ?_;(conv=>whnf)
  refine am rfl ?_
  conv=>whnf
  refine nI ?_
  conv=>whnf
  repeat' ((first|refine nI ?_|refine aI ?_|refine uI ?_|refine vI ?_|refine dI ?_|refine dR ?_|refine dP ?_|refine am rfl ?_|refine pI _ rfl ?_|refine ak _ rfl ?_|refine tI ?_|refine fI ?_|refine ah (fun _=>?_) (fun _=>?_))<;>conv=>whnf)
  all_goals
   refine⟨aj ?_,rfl⟩
   unfold rK
   dsimp only
   (repeat' split)<;>omega
theorem Kn (p:ao) (s:az) (c:ap) (m:Int) (f:Bool) (h1:kX c.sent 1048577) (h2:kX c.faulty 1048577) (hm:0<=m/\m<c.sent.length/\m<c.faulty.length) (hs:0<=s.f/\s.f<=1048576):ae Tryz.prog 131 [.agg (bf p), .agg (b7 s), .agg (bg c), .int .i64 m, .bool f] (fun u=>u= .int .i64 (rK p s c m f)):=by
 have a1:=h1 m.toNat (by omega)
 have a2:=h2 m.toNat (by omega)
 cases f
 all_goals
  refine ae.intro ab ac Tryz.func131 rfl (by decide) ?_;(conv=>whnf)
  refine am rfl ?_
  conv=>whnf
  refine am rfl ?_
  conv=>whnf
  refine am rfl ?_
  conv=>whnf
  by_cases e1:p.fault=1
  ·repeat' ((first|refine nI ?_|refine aI ?_|refine tI ?_|refine fI ?_|fail);conv=>whnf)
   refine dI ?_
   conv=>whnf
   repeat' ((first|refine nI ?_|refine aI ?_|refine uI ?_|refine vI ?_|refine dI ?_|refine dR ?_|refine dP ?_|refine am rfl ?_|refine pI _ rfl ?_|refine ak _ rfl ?_|refine tI ?_|refine fI ?_|refine ah (fun _=>?_) (fun _=>?_))<;>conv=>whnf)
   all_goals
    refine⟨aj ?_,rfl⟩
    unfold rK
    dsimp only
    (repeat' split)<;>omega
  by_cases e2:p.fault=2
  ·repeat' ((first|refine nI ?_|refine aI ?_|refine tI ?_|refine fI ?_|fail);conv=>whnf)
   all_goals try(refine dI ?_)
   all_goals
    conv=>whnf
    repeat' ((first|refine nI ?_|refine aI ?_|refine uI ?_|refine vI ?_|refine dI ?_|refine dR ?_|refine dP ?_|refine am rfl ?_|refine pI _ rfl ?_|refine ak _ rfl ?_|refine tI ?_|refine fI ?_|refine ah (fun _=>?_) (fun _=>?_))<;>conv=>whnf)
   all_goals
    refine⟨aj ?_,rfl⟩
    unfold rK
    dsimp only
    (repeat' split)<;>omega
  by_cases e3:p.fault=3
  ·repeat' ((first|refine nI ?_|refine aI ?_|refine tI ?_|refine fI ?_|fail);conv=>whnf)
   all_goals try(refine dI ?_)
   all_goals
    conv=>whnf
    repeat' ((first|refine nI ?_|refine aI ?_|refine uI ?_|refine vI ?_|refine dI ?_|refine dR ?_|refine dP ?_|refine am rfl ?_|refine pI _ rfl ?_|refine ak _ rfl ?_|refine tI ?_|refine fI ?_|refine ah (fun _=>?_) (fun _=>?_))<;>conv=>whnf)
   all_goals
    refine⟨aj ?_,rfl⟩
    unfold rK
    dsimp only
    (repeat' split)<;>omega
  ·repeat' ((first|refine nI ?_|refine aI ?_|refine tI ?_|refine fI ?_|fail);conv=>whnf)
   repeat' ((first|refine nI ?_|refine aI ?_|refine uI ?_|refine vI ?_|refine dI ?_|refine dR ?_|refine dP ?_|refine am rfl ?_|refine pI _ rfl ?_|refine ak _ rfl ?_|refine tI ?_|refine fI ?_|refine ah (fun _=>?_) (fun _=>?_))<;>conv=>whnf)
   all_goals
    refine⟨aj ?_,rfl⟩
    unfold rK
    dsimp only
    (repeat' split)<;>omega
theorem nY {i n:Int} (h:dj i n=0):0<=i/\i<n:=by
 unfold dj at h;split at h<;>omega
theorem mc {m v:Int} (h:gT m v=0):-1<=v/\v<m:=by
 unfold gT at h;split at h<;>omega
theorem Mt {m:Int} {g:nN} (h:gE m g=0):(0<=g.message/\g.message<m)/\(1<=g.coef/\g.coef<=100)/\nQ g.bound:=by
 have hz:=cm h
 have h1:=hz (dj g.message m) (by simp)
 have h2:=hz (lB g.coef) (by simp)
 have h3:=hz (nT g.bound) (by simp)
 refine⟨nY h1,?_,?_⟩
 ·unfold lB at h2;split at h2<;>omega
 ·unfold nT at h3;split at h3
  ·assumption
  ·omega
theorem rL {m:Int} {l:List nN} (h:bZ m l=0):∀j,j<l.length->(0<=(l.getD j dv).message/\(l.getD j dv).message<m)/\(1<=(l.getD j dv).coef/\(l.getD j dv).coef<=100)/\nQ (l.getD j dv).bound:=by
 intro j hj
 unfold bZ at h
 by_cases h1:cF (l.map (gE m))=0
 ·exact Mt (cm h1 _ (List.mem_map.2 ⟨_,by rw[gD,gL hj];exact List.getElem_mem _,rfl⟩))
 ·rw[if_pos h1] at h;omega
structure g9 (p:ao) (r:dh):Prop where
 fit:cj r.kind p.topology
 sur:¬kz r p.topology
 src:0<=r.src/\r.src<p.states.length
 dst:0<=r.dst/\r.dst<p.states.length
 kin:d8 p r=0
theorem EX {p:ao} {i:Nat} {r:dh} (h:di p i r=0):g9 p r:=by
 unfold di at h
 by_cases h1:¬de r.name\/gU p.rules i r
 ·rw[if_pos h1] at h;omega
 rw[if_neg h1] at h
 by_cases h2:¬cj r.kind p.topology\/kz r p.topology
 ·rw[if_pos h2] at h;omega
 rw[if_neg h2] at h
 have hz:=cm h
 refine⟨?_,fun hs=>h2 (.inr hs),nY (hz _ (by simp)),nY (hz _ (by simp)),hz _ (by simp)⟩
 by_cases hf:cj r.kind p.topology
 ·exact hf
 ·exact absurd (.inl hf) h2
theorem aK {p:ao} (h:bD p=0) {i:Nat} (hi:i<p.rules.length):g9 p (p.rules.getD i au):=by
 unfold bD at h
 have ht:xq p=0:=by
  (repeat' split at h)<;>first|exact h|omega
 have hz:=cm ht (jB p) (by simp)
 refine EX (i:=i) (cm hz _ (List.mem_map.2 ⟨i,List.mem_range.2 hi,rfl⟩))
structure c9 (p:ao) (s:az) (c:ap):Prop where
 big:¬b9 p
 wide:bc c=false
 val:bD p=0
 siz:EK s
 sz:(1<=s.n/\s.n<=8)/\(0<=s.f/\s.f<=s.n)
 adm:kA p s
 vc:VC p s c
theorem c9.of {p:ao} {s:az} {c:ap} (hp:¬b9 p) (hw:bc c=false) (h:kP p s c=0):c9 p s c:=by
 unfold kP at h
 by_cases h1:cT p s≠0
 ·rw[if_pos h1] at h;omega
 rw[if_neg h1] at h
 have h2:=dM (p:=p) (s:=s) (by omega)
 refine⟨hp,hw,h2.1,by unfold EK;omega,by omega,h2.2.1,?_⟩
 unfold J8 at h
 by_cases h3:VC p s c
 ·exact h3
 ·rw[if_neg h3] at h;omega
theorem c9.sent {p:ao} {s:az} {c:ap} (h:c9 p s c):kX c.sent 1048577/\kX c.faulty 1048577:=by
 refine⟨h.vc.sen,fun j hj=>?_⟩
 have:=h.vc.fau j hj
 have e:Dh p<=1048576:=by unfold Dh;split<;>omega
 omega
theorem Cj (l:yF) (s:az) (hl:nQ l) (hs:EK s):ae Tryz.prog 130 [.agg (eE l), .agg (b7 s)] (fun u=>u= .tup [.int .i64 (rD l s), .int .i64 0]):=by
 have hs':=hs
 unfold EK at hs'
 refine ae.intro ab ac Tryz.func130 rfl (by decide) ?_;(conv=>whnf)
 refine am rfl ?_
 conv=>whnf
 refine am rfl ?_
 conv=>whnf
 refine dC (J5 l) (fun _=>?_) (fun _=>?_)<;>(conv=>whnf)
 case refine_2=>rename_i h;exact absurd hl h
 refine dC (bm _ _ _) (fun _=>?_) (fun _=>?_)<;>(conv=>whnf)
 case refine_2=>rename_i h;omega
 refine dC (bm _ _ _) (fun _=>?_) (fun _=>?_)<;>(conv=>whnf)
 case refine_2=>rename_i h;omega
 refine dC (bm _ _ _) (fun _=>?_) (fun _=>?_)<;>(conv=>whnf)
 case refine_2=>rename_i h;omega
 (refine oP (EM l s hl hs) ?_;conv=>whnf)
 exact⟨rfl,rfl⟩
def o3 (p:ao) (s:az) (c:ap) (f:Bool) (g:nN):Prop:=rD g.bound s<=g.coef*rK p s c g.message f
def vw (p:ao) (s:az) (c:ap) (r:dh) (f:Bool):Prop:=∀j,j<r.guards.length->o3 p s c f (r.guards.getD j dv)
noncomputable instance decGrd (p:ao) (s:az) (c:ap) (r:dh) (f:Bool):Decidable (vw p s c r f):=Classical.propDecidable _
theorem Ja {a b:Int} (ha:1<=a/\a<=100) (hb:0<=b/\b<=2097152):0<=a*b/\a*b<=209715200:=by
 have h1:0<=a*b:=Int.mul_nonneg (by omega) hb.1
 have h2:a*b<=100*2097152:=Int.mul_le_mul (by omega) hb.2 hb.1 (by omega)
 omega
theorem HB (p:ao) (s:az) (c:ap) (r:dh) (f:Bool) (h:c9 p s c) (hr:¬nO r) (hg:bZ p.messages.length r.guards=0):ae Tryz.prog 156 [.agg (iP p s c), .agg (fD r), .bool f] (fun u=>u= .bool (decide (vw p s c r f))):=by
 have hle:=aF h.big
 have hbr:=br hr
 have hgs:=rL hg
 have hsn:=h.vc.snl
 have hfa:=h.vc.fal
 have hz:=h.siz
 unfold EK at hz
 refine ae.intro ab ac Tryz.func156 rfl (by decide) ?_;(conv=>whnf)
 refine am rfl ?_
 conv=>whnf
 refine am rfl ?_
 conv=>whnf
 refine aE.loopF ab ac (fun k:Nat=>k<=r.guards.length/\∀j,j<k->o3 p s c f (r.guards.getD j dv)) (fun k=>[(14, .int .i64 (k:Int))]) (fun _=>[]) (fun k=>r.guards.length-k) 0 ⟨by omega,fun j hj=>by omega⟩ ?_;conv=>whnf
 refine⟨sI,?_⟩
 rintro k ⟨hk,ha⟩
 conv=>whnf
 refine ah ?_ ?_<;>(intro h1;conv=>whnf)
 ·obtain⟨g1,g2,g3⟩:=hgs k (by omega)
  have nok:¬o3 p s c f (r.guards.getD k dv)->¬vw p s c r f:=fun hn hb=>hn (hb k (by omega))
  have next:o3 p s c f (r.guards.getD k dv)->∀j,j<k+1->o3 p s c f (r.guards.getD j dv):=fun hn j hj=>by
   by_cases e:j=k
   ·subst e;exact hn
   ·exact ha j (by omega)
  refine nI ?_
  rw[tN]
  generalize r.guards.getD k dv=g at g1 g2 g3 nok next
  have hb:=EV (p:=p) (s:=s) (c:=c) (m:=g.message) f h.sent.1 h.sent.2 (by omega) (by omega)
  have hm:=Ja g2 hb
  conv=>whnf
  (refine oP (ua g.bound s g3 h.siz) ?_;conv=>whnf)
  refine dI ?_
  conv=>whnf
  (refine oC (EW p s c g.message f h.sent.1 h.sent.2 (by omega) (by omega)) ?_;conv=>whnf)
  repeat' ((first|refine nI ?_|refine aI ?_|refine tI ?_|refine fI ?_|fail);conv=>whnf)
  refine ah ?_ ?_<;>(intro h2;conv=>whnf)
  ·exact⟨aq (nok (by unfold o3;omega)),rfl⟩
  ·repeat' ((first|refine nI ?_|refine aI ?_|refine tI ?_|refine fI ?_|fail);conv=>whnf)
   exact⟨k+1,sI,⟨by omega,next (by unfold o3;omega)⟩,by dsimp only;omega⟩
 ·exact⟨aN (fun j hj=>ha j (by omega)),rfl⟩
def exK (c:ap) (l:List Int) (i:Int) (k:Nat):Prop:=l.length=0\/∃j,j<k/\(j:Int)≠i/\c.states.getD j 0∈l
def zF (c:ap) (l:List Int) (i:Int) (k:Nat):Prop:=l.length=0\/∀j,j<k->(j:Int)≠i->c.states.getD j 0∈l
def xE (c:ap) (r:dh) (i:Int):Prop:=exK c r.some_ i c.states.length/\zF c r.forall_ i c.states.length
noncomputable instance decOth (c:ap) (r:dh) (i:Int):Decidable (xE c r i):=Classical.propDecidable _
section
variable {c:ap} {l:List Int} {i:Int} {k:Nat}
theorem xF:exK c l i 0↔l.length=0:=⟨fun h=>h.elim id (fun⟨j,hj,_⟩=>by omega), .inl⟩
theorem xG:zF c l i 0:=.inr fun j hj=>by omega
theorem rM (h:(k:Int)=i):exK c l i (k+1)↔exK c l i k:=
 ⟨fun h1=>h1.elim .inl (fun⟨j,hj,hn,hm⟩=>.inr ⟨j,by omega,hn,hm⟩),fun h1=>h1.elim .inl (fun⟨j,hj,hn,hm⟩=>.inr ⟨j,by omega,hn,hm⟩)⟩
theorem rN (h:(k:Int)=i):zF c l i (k+1)↔zF c l i k:=
 ⟨fun h1=>h1.elim .inl (fun h2=>.inr fun j hj hn=>h2 j (by omega) hn),fun h1=>h1.elim .inl (fun h2=>.inr fun j hj hn=>h2 j (by omega) hn)⟩
theorem vy (h:exK c l i k):exK c l i (k+1):=h.elim .inl (fun⟨j,hj,hn,hm⟩=>.inr ⟨j,by omega,hn,hm⟩)
theorem vz (h:(k:Int)≠i) (hm:c.states.getD k 0∈l):exK c l i (k+1):=.inr ⟨k,by omega,h,hm⟩
theorem zG (h:¬exK c l i k) (hm:c.states.getD k 0∉l):¬exK c l i (k+1):=fun h1=>h1.elim (fun e=>h (.inl e)) (fun⟨j,hj,hn,hmm⟩=>by
 by_cases e:j=k
 ·subst e;exact hm hmm
 ·exact h (.inr ⟨j,by omega,hn,hmm⟩))
theorem HC (h:¬zF c l i k):¬zF c l i (k+1):=fun h1=>h (h1.elim .inl (fun h2=>.inr fun j hj hn=>h2 j (by omega) hn))
theorem qc (h:l.length=0):zF c l i k:=.inl h
theorem qd (h:zF c l i k) (hm:c.states.getD k 0∈l):zF c l i (k+1):=h.elim .inl (fun h2=>.inr fun j hj hn=>by
 by_cases e:j=k
 ·subst e;exact hm
 ·exact h2 j (by omega) hn)
theorem Ko (h0:¬l.length=0) (h:(k:Int)≠i) (hm:c.states.getD k 0∉l):¬zF c l i (k+1):=fun h1=>h1.elim h0 (fun h2=>hm (h2 k (by omega) h))
end
theorem dq {p:Prop} (h:p):(true=true↔p):=⟨fun _=>h,fun _=>rfl⟩
theorem dZ {p:Prop} (h:¬p):(false=true↔p):=⟨fun e=>(by cases e),fun e=>absurd e h⟩
theorem dw {p:Prop} (h:false=true↔p):¬p:=fun hp=>by have:=h.2 hp;cases this
theorem HD (p:ao) (s:az) (c:ap) (r:dh) (i:Int) (hw:bc c=false) (hr:¬nO r):ae Tryz.prog 157 [.agg (iP p s c), .agg (fD r), .int .i64 i] (fun u=>u= .bool (decide (xE c r i))):=by
 have hbr:=br hr
 have hc:=aL hw
 refine ae.intro ab ac Tryz.func157 rfl (by decide) ?_;(conv=>whnf)
 refine am rfl ?_
 conv=>whnf
 refine am rfl ?_
 conv=>whnf
 refine LJ ?_
 conv=>whnf
 refine aE.loopF ab ac (fun x:Nat×Bool×Bool=>x.1<=c.states.length/\(x.2.1=true↔exK c r.some_ i x.1)/\(x.2.2=true↔zF c r.forall_ i x.1)) (fun x=>[(19, .int .i64 (x.1:Int)),(7, .bool x.2.1),(8, .bool x.2.2)]) (fun _=>[]) (fun x=>c.states.length-x.1) (0,decide ((r.some_.length:Int)=0),true) ⟨Nat.zero_le _,by rw[xF,decide_eq_true_iff];omega,dq xG⟩ ?_;conv=>whnf
 refine⟨sI,?_⟩
 rintro⟨k,e,a⟩ ⟨hk,he,ha⟩
 dsimp only at hk he ha⊢
 cases e<;>cases a
 all_goals
  conv=>whnf
  refine ah ?_ ?_<;>(intro h1;conv=>whnf)
 case' false.false.refine_2=>exact⟨aq (fun hh=>dw he (by rw[show k=c.states.length by omega];exact hh.1)),rfl⟩
 case' false.true.refine_2=>exact⟨aq (fun hh=>dw he (by rw[show k=c.states.length by omega];exact hh.1)),rfl⟩
 case' true.false.refine_2=>exact⟨aq (fun hh=>dw ha (by rw[show k=c.states.length by omega];exact hh.2)),rfl⟩
 case' true.true.refine_2=>exact⟨aN ⟨by have:=he.1 rfl;rwa [show k=c.states.length by omega] at this,by have:=ha.1 rfl;rwa [show k=c.states.length by omega] at this⟩,rfl⟩
 all_goals
  refine nI ?_
  rw[tN]
  conv=>whnf
  refine ah ?_ ?_<;>(intro h2;conv=>whnf)
  case refine_1=>
   repeat' ((first|refine nI ?_|refine aI ?_|refine tI ?_|refine fI ?_|fail);conv=>whnf)
   exact⟨(k+1,_,_),sI,⟨by dsimp only;omega,he.trans (rM h2).symm,ha.trans (rN h2).symm⟩,by dsimp only;omega⟩
 case' false.false.refine_1=>
  refine dC (gm r.some_ _ (by omega)) (fun _=>?_) (fun _=>?_)<;>(conv=>whnf)
  case' refine_1=>have hE:=dq (vz h2 (by assumption))
  case' refine_2=>have hE:=dZ (zG (dw he) (by assumption))
 case' false.true.refine_1=>
  refine dC (gm r.some_ _ (by omega)) (fun _=>?_) (fun _=>?_)<;>(conv=>whnf)
  case' refine_1=>have hE:=dq (vz h2 (by assumption))
  case' refine_2=>have hE:=dZ (zG (dw he) (by assumption))
 case' true.false.refine_1=>have hE:=dq (vy (he.1 rfl))
 case' true.true.refine_1=>have hE:=dq (vy (he.1 rfl))
 all_goals first
  |(refine ah ?_ ?_<;>(intro h3;conv=>whnf)
    ·repeat' ((first|refine nI ?_|refine aI ?_|refine tI ?_|refine fI ?_|fail);conv=>whnf)
     exact⟨(k+1,_,_),sI,⟨by dsimp only;omega,hE,dq (qc (by omega))⟩,by dsimp only;omega⟩
    ·refine dC (gm r.forall_ _ (by omega)) (fun _=>?_) (fun _=>?_)<;>(conv=>whnf)
     ·rename_i h4
      repeat' ((first|refine nI ?_|refine aI ?_|refine tI ?_|refine fI ?_|fail);conv=>whnf)
      exact⟨(k+1,_,_),sI,⟨by dsimp only;omega,hE,dq (qd (ha.1 rfl) h4)⟩,by dsimp only;omega⟩
     ·rename_i h4
      repeat' ((first|refine nI ?_|refine aI ?_|refine tI ?_|refine fI ?_|fail);conv=>whnf)
      exact⟨(k+1,_,_),sI,⟨by dsimp only;omega,hE,dZ (Ko (by omega) h2 h4)⟩,by dsimp only;omega⟩)
  |(skip
    repeat' ((first|refine nI ?_|refine aI ?_|refine tI ?_|refine fI ?_|fail);conv=>whnf)
    exact⟨(k+1,_,_),sI,⟨by dsimp only;omega,hE,dZ (HC (dw ha))⟩,by dsimp only;omega⟩)
def Ck (c:ap) (l:List Int) (x:Int):Prop:=l.length=0\/(0<=x/\c.states.getD x.toNat 0∈l)
noncomputable instance decDem (c:ap) (l:List Int) (x:Int):Decidable (Ck c l x):=Classical.propDecidable _
theorem EY (p:ao) (s:az) (c:ap) (l:List Int) (x:Int) (hl:l.length<=60) (hx:x<c.states.length) (hw:bc c=false):ae Tryz.prog 159 [.agg (iP p s c), .sl 0 aD l, .int .i64 x] (fun u=>u= .bool (decide (Ck c l x))):=by
 have hc:=aL hw
 refine ae.intro ab ac Tryz.func159 rfl (by decide) ?_;(conv=>whnf)
 refine am rfl ?_
 conv=>whnf
 refine ah ?_ ?_<;>(intro h1;conv=>whnf)
 ·exact⟨aN (.inl (by omega)),rfl⟩
 refine ah ?_ ?_<;>(intro h2;conv=>whnf)
 ·refine nI ?_
  conv=>whnf
  refine dC (gm l _ (by omega)) (fun _=>?_) (fun _=>?_)<;>(conv=>whnf)
  ·rename_i h3;exact⟨aN (.inr ⟨h2,h3⟩),rfl⟩
  ·rename_i h3;exact⟨aq (fun h=>h.elim (by omega) (fun h=>h3 h.2)),rfl⟩
 ·exact⟨aq (fun h=>h.elim (by omega) (fun h=>h2 h.1)),rfl⟩
theorem rO (c:ap) (l:List Int) (x:Int) (hl:l.length<=60) (hx:x<c.states.length) (hw:bc c=false):ae Tryz.prog 102 [.agg (bg c), .sl 0 aD l, .int .i64 x] (fun u=>u= .bool (decide (Ck c l x))):=by
 have hc:=aL hw
 refine ae.intro ab ac Tryz.func102 rfl (by decide) ?_;(conv=>whnf)
 refine am rfl ?_
 conv=>whnf
 refine ah ?_ ?_<;>(intro h1;conv=>whnf)
 ·exact⟨aN (.inl (by omega)),rfl⟩
 refine ah ?_ ?_<;>(intro h2;conv=>whnf)
 ·refine nI ?_
  conv=>whnf
  refine dC (xA l _ (by omega)) (fun _=>?_) (fun _=>?_)<;>(conv=>whnf)
  ·rename_i h3;exact⟨aN (.inr ⟨h2,h3⟩),rfl⟩
  ·rename_i h3;exact⟨aq (fun h=>h.elim (by omega) (fun h=>h3 h.2)),rfl⟩
 ·exact⟨aq (fun h=>h.elim (by omega) (fun h=>h2 h.1)),rfl⟩
end
section
theorem kO.leaf {l:List Int} (h:kO l) {i:Nat} (hi:i<l.length) (h0:l.getD i 0=0):bI l i=i+1:=by
 obtain⟨e,h3,h4⟩:=h.at hi
 rw[gj hi,cw 0,if_pos h0,eD,Option.some.injEq] at e
 have:=congrArg List.length e
 simp only[List.length_drop] at this
 omega
theorem kO.root {l:List Int} (h:kO l) (hl:0<l.length):bI l 0=l.length:=by
 obtain⟨e,h3,h4⟩:=h.at hl
 rw[List.drop_zero,show bV 1 l=some [] from h,Option.some.injEq] at e
 have:=congrArg List.length e
 simp only[List.length_drop,List.length_nil] at this
 omega
theorem kO.parAll {l:List Int} (h:kO l):∀i,i<l.length->(0<i->0<=cE l i/\cE l i<i)/\(bI l i<l.length->0<=cE l (bI l i)/\cE l (bI l i)<i):=by
 intro i
 induction i using Nat.strongRecOn with
 |_ i ih=>
  intro hi
  have one:0<i->0<=cE l i/\cE l i<i:=by
   intro h0
   obtain⟨j,rfl⟩:∃j,i=j+1:=⟨i-1,by omega⟩
   rcases h.zeroTwo (i:=j) (by omega) with h2|h2
   ·have e:=h.leaf (by omega) h2
    have:=(ih j (by omega) (by omega)).2 (by omega)
    rw[e] at this
    omega
   ·have:=sZ h (i:=j) (by omega) h2
    omega
  refine⟨one,fun he=>?_⟩
  by_cases h0:i=0
  ·subst h0
   have:=h.root (by omega)
   omega
  ·obtain⟨a,b⟩:=one (by omega)
   rcases rg l i i with hc|⟨k,hk,hc,hp⟩
   ·unfold cE at a;omega
   ·simp only[dp,Bool.and_eq_true,Bool.or_eq_true,decide_eq_true_eq] at hp
    obtain⟨h2,hp⟩:=hp
    have ht:=h.two (i:=k) (by omega) h2
    rcases hp with hp|hp
    ·have:=rh h (i:=k) (by omega) h2
     rw[hp] at this
     omega
    ·rw[hp] at ht
     have:=(ih k hk (by omega)).2 (by omega)
     rw[<-ht.2.2.2.1] at this
     omega
theorem vB (l:List Int):cE l 0=-1:=rfl
theorem Jb {t:Int} {l:List Int} {n i:Nat} (hi:i<n):-1<=s2 t l n i/\s2 t l n i<n:=by
 unfold s2
 by_cases h:t=4/\rj t l n=true
 ·rw[if_pos h]
  unfold cE
  rcases rg l i i with hc|⟨k,hk,hc,_⟩<;>omega
 ·rw[if_neg h];omega
theorem Kp {t:Int} {l:List Int} {n:Nat} (h:t=4) (hs:kO l) (hl:l.length=n):rj t l n=true:=by
 unfold rj;rw[decide_eq_true_iff];exact fun _=>⟨hs,hl⟩
set_option maxRecDepth 100000
set_option maxHeartbeats 8000000
structure aQ where
 rule:Int
 process:Int
 partner:Int
def cH (x:aQ):List AV:=[.int .i64 x.rule, .int .i64 x.process, .int .i64 x.partner]
def aR:aQ:=⟨0,0,0⟩
def nF (p:ao) (c:ap) (i:Nat):Int:=rk p.topology c.shape c.states.length i
def nS (p:ao) (c:ap) (i:Nat):Int:=p7 p.topology c.shape c.states.length i
def nP (p:ao) (c:ap) (i:Nat):Int:=s2 p.topology c.shape c.states.length i
def Cl (p:ao) (c:ap) (r:dh) (i:Nat):Prop:=(r.at_=1->i=0)/\(r.at_=2->(p.topology=2->nS p c i=-1)/\(p.topology=4->nF p c i=-1))
noncomputable instance decPos (p:ao) (c:ap) (r:dh) (i:Nat):Decidable (Cl p c r i):=Classical.propDecidable _
def vC (p:ao) (c:ap) (r:dh) (i:Nat) (j:Int):Prop:=if r.direction=1 then nS p c i=j else if r.direction=2 then nF p c i=j else if r.direction=3 then(nF p c i=j\/nS p c i=j) else nP p c i=j
noncomputable instance decPas (p:ao) (c:ap) (r:dh) (i:Nat) (j:Int):Decidable (vC p c r i j):=Classical.propDecidable _
def xH (c:ap) (r:dh) (x:aQ):Prop:=0<=x.partner/\x.partner<c.states.length/\x.partner≠x.process/\c.states.getD x.partner.toNat 0=r.pfrom
def Kq (p:ao) (c:ap) (r:dh) (i:Nat):Prop:=Cl p c r i/\Ck c r.left (nF p c i)/\Ck c r.right (nS p c i)/\Ck c r.parent (nP p c i)
def tb (p:ao) (s:az) (c:ap) (r:dh) (x:aQ) (f:Bool):Prop:=
 if r.kind=2\/r.kind=5 then xH c r x/\(r.kind=2\/vC p c r x.process.toNat x.partner)
 else x.partner=-1/\(if r.kind=1 then vw p s c r f/\xE c r x.process else if r.kind=3 then True else Kq p c r x.process.toNat)
def Jc (p:ao) (s:az) (c:ap) (r:dh) (x:aQ) (f:Bool):Prop:=c.states.getD x.process.toNat 0=r.src/\(r.read=-1\/c.value=r.read)/\tb p s c r x f
def cz (p:ao) (s:az) (c:ap) (x:aQ) (f:Bool):Prop:=((0<=x.rule/\x.rule<p.rules.length)/\(0<=x.process/\x.process<c.states.length))/\Jc p s c (p.rules.getD x.rule.toNat au) x f
noncomputable instance decEn (p:ao) (s:az) (c:ap) (x:aQ) (f:Bool):Decidable (cz p s c x f):=Classical.propDecidable _
theorem zH {p:ao} (h:bD p=0):1<=p.topology/\p.topology<=4:=by
 unfold bD at h
 by_cases h1:¬de p.name
 ·rw[if_pos h1] at h;omega
 rw[if_neg h1] at h
 by_cases h2:p.topology<1\/4<p.topology\/p.fault<0\/3<p.fault
 ·rw[if_pos h2] at h;omega
 ·omega
theorem zI {p:ao} (h:bD p=0) (ht:p.topology≠1):p.messages.length=0/\p.values.length=0/\p.resilience.length=0/\p.fault=0:=by
 unfold bD at h
 (repeat' split at h)<;>omega
theorem g9.read {p:ao} {r:dh} (h:g9 p r):-1<=r.read/\-1<=r.write/\r.read<p.values.length/\r.write<p.values.length:=by
 have hk:=h.kin
 have hs:=h.sur
 have hf:=h.fit
 unfold cj at hf
 unfold d8 at hk
 by_cases k1:r.kind=1
 ·rw[if_pos k1] at hk
  have hz:=cm hk
  have a:=mc (hz (gT p.values.length r.read) (by simp))
  have b:=mc (hz (gT p.values.length r.write) (by simp))
  omega
 rw[if_neg k1] at hk
 by_cases k2:r.kind=2
 ·rw[if_pos k2] at hk
  have hz:=cm hk
  have a:=mc (hz (gT p.values.length r.read) (by simp))
  have b:=mc (hz (gT p.values.length r.write) (by simp))
  omega
 rw[if_neg k2] at hk
 by_cases k3:r.kind=3
 ·rw[if_pos k3] at hk
  have hz:=cm hk
  have a:=mc (hz (gT p.values.length r.read) (by simp))
  have b:=mc (hz (gT p.values.length r.write) (by simp))
  omega
 ·unfold kz at hs
  omega
theorem g9.guards {p:ao} {r:dh} (h:g9 p r) (hk:r.kind=1):bZ p.messages.length r.guards=0:=by
 have:=h.kin
 unfold d8 at this
 rw[if_pos hk] at this
 exact cm this _ (by simp)
theorem g9.at4 {p:ao} {r:dh} (h:g9 p r) (hk:r.kind=4):EH r.at_ p.topology=0:=by
 have:=h.kin
 unfold d8 at this
 rw[if_neg (by omega),if_neg (by omega),if_neg (by omega),if_pos hk] at this
 exact cm this _ (by simp)
theorem Kr {p:ao} {s:az} {c:ap} {r:dh} {i:Nat} (h:c9 p s c) (hr:g9 p r) (hk:r.kind=4) (hi:i<c.states.length):
  Cl p c r i↔(r.at_=0\/(r.at_=1/\p.topology=4/\nP p c i<0)\/(r.at_=1/\p.topology≠4/\nF p c i<0)\/(r.at_≠0/\r.at_≠1/\nS p c i<0)):=by
 have hat:=hr.at4 hk
 have ht:=zH h.val
 have hf:=hr.fit
 unfold cj at hf
 unfold EH at hat
 have hat2:(r.at_=0\/r.at_=1\/r.at_=2)/\(r.at_≠0->p.topology≠3):=by
  split at hat<;>omega
 have htop:p.topology=2\/p.topology=3\/p.topology=4:=by omega
 have lin:p.topology=2->nF p c i=(i:Int)-1/\nS p c i=if i+1=c.states.length then -1 else(i:Int)+1:=fun e=>by
  unfold nF nS rk p7
  rw[if_pos e,if_pos e]
  exact⟨rfl,rfl⟩
 have tre:p.topology=4->nF p c i=jA c.shape i/\nS p c i=gA c.shape i/\nP p c i=cE c.shape i/\(i=0↔cE c.shape i<0):=fun e=>by
  obtain⟨e1,e2⟩:=h.vc.tre e
  have e3:=h.vc.len
  have hlen:c.shape.length=c.states.length:=by
   unfold ee at e3
   have:=zI h.val (by omega)
   rw[if_neg (by omega)] at e3
   omega
  have hl:=Kp e e2 hlen
  unfold nF nS nP rk p7 s2
  rw[if_neg (by omega),if_neg (by omega),if_pos ⟨e,hl⟩,if_neg (by omega),if_neg (by omega),if_pos ⟨e,hl⟩,if_pos ⟨e,hl⟩]
  refine⟨rfl,rfl,rfl,?_⟩
  constructor
  ·intro e0;subst e0;rw[vB];omega
  ·intro hlt
   by_cases e0:i=0
   ·exact e0
   ·have:=(e2.parAll i (by omega)).1 (by omega)
    omega
 unfold Cl
 rcases htop with e|e|e
 ·obtain⟨a,b⟩:=lin e
  by_cases e1:i+1=c.states.length
  ·rw[if_pos e1] at b;constructor<;>intro hh<;>omega
  ·rw[if_neg e1] at b;constructor<;>intro hh<;>omega
 ·constructor<;>intro hh<;>omega
 ·obtain⟨a,b,d,g⟩:=tre e
  unfold jA at a
  unfold gA at b
  by_cases e1:c.shape.getD i 0=2
  ·rw[if_pos e1] at a b;constructor<;>intro hh<;>omega
  ·rw[if_neg e1] at a b;constructor<;>intro hh<;>omega
theorem Cm (p:ao) (s:az) (c:ap) (r:dh) (i:Nat) (h:c9 p s c) (hr:g9 p r) (hk:r.kind=4) (hi:i<c.states.length):ae Tryz.prog 158 [.agg (iP p s c), .agg (fD r), .int .i64 (i:Int)] (fun u=>u= .bool (decide (Cl p c r i))):=by
 have hpe:=Kr h hr hk hi
 have f1:((List.range c.states.length).map (rk p.topology c.shape c.states.length)).length=c.states.length:=by simp
 have f2:((List.range c.states.length).map (p7 p.topology c.shape c.states.length)).length=c.states.length:=by simp
 have f3:((List.range c.states.length).map (s2 p.topology c.shape c.states.length)).length=c.states.length:=by simp
 unfold nF nS nP at hpe
 refine ae.intro ab ac Tryz.func158 rfl (by decide) ?_;(conv=>whnf)
 refine am rfl ?_
 conv=>whnf
 refine am rfl ?_
 conv=>whnf
 refine ah ?_ ?_<;>(intro h1;conv=>whnf)
 ·exact⟨aN (hpe.2 (.inl h1)),rfl⟩
 by_cases h2:r.at_=1
 ·by_cases h3:p.topology=4
  ·repeat' ((first|refine nI ?_|refine aI ?_|refine tI ?_|refine fI ?_|fail);conv=>whnf)
   rw[tN,bi _ _ _ hi]
   refine ah ?_ ?_<;>(intro h4;conv=>whnf)
   ·exact⟨aN (hpe.2 (by omega)),rfl⟩
   ·exact⟨aq (fun hh=>by have:=hpe.1 hh;omega),rfl⟩
  ·repeat' ((first|refine nI ?_|refine aI ?_|refine tI ?_|refine fI ?_|fail);conv=>whnf)
   rw[tN,bi _ _ _ hi]
   refine ah ?_ ?_<;>(intro h4;conv=>whnf)
   ·exact⟨aN (hpe.2 (by omega)),rfl⟩
   ·exact⟨aq (fun hh=>by have:=hpe.1 hh;omega),rfl⟩
 ·by_cases h3:p.topology=4
  all_goals
   repeat' ((first|refine nI ?_|refine aI ?_|refine tI ?_|refine fI ?_|fail);conv=>whnf)
   rw[tN,bi _ _ _ hi]
   refine ah ?_ ?_<;>(intro h4;conv=>whnf)
   ·exact⟨aN (hpe.2 (by omega)),rfl⟩
   ·exact⟨aq (fun hh=>by have:=hpe.1 hh;omega),rfl⟩
theorem HE (p:ao) (s:az) (c:ap) (r:dh) (i:Nat) (j:Int) (hi:i<c.states.length):ae Tryz.prog 155 [.agg (iP p s c), .agg (fD r), .int .i64 (i:Int), .int .i64 j] (fun u=>u= .bool (decide (vC p c r i j))):=by
 have f1:((List.range c.states.length).map (rk p.topology c.shape c.states.length)).length=c.states.length:=by simp
 have f2:((List.range c.states.length).map (p7 p.topology c.shape c.states.length)).length=c.states.length:=by simp
 have f3:((List.range c.states.length).map (s2 p.topology c.shape c.states.length)).length=c.states.length:=by simp
 have he:vC p c r i j=(if r.direction=1 then p7 p.topology c.shape c.states.length i=j else if r.direction=2 then rk p.topology c.shape c.states.length i=j else if r.direction=3 then(rk p.topology c.shape c.states.length i=j\/p7 p.topology c.shape c.states.length i=j) else s2 p.topology c.shape c.states.length i=j):=rfl
 refine ae.intro ab ac Tryz.func155 rfl (by decide) ?_;(conv=>whnf)
 refine am rfl ?_
 conv=>whnf
 refine am rfl ?_
 conv=>whnf
 by_cases h1:r.direction=1
 ·rw[if_pos h1] at he
  repeat' ((first|refine nI ?_|refine aI ?_|refine tI ?_|refine fI ?_|fail);conv=>whnf)
  rw[tN,bi _ _ _ hi]
  refine ah ?_ ?_<;>(intro h4;conv=>whnf)
  ·exact⟨aN (by rw[he];exact h4),rfl⟩
  ·exact⟨aq (by rw[he];exact h4),rfl⟩
 rw[if_neg h1] at he
 by_cases h2:r.direction=2
 ·rw[if_pos h2] at he
  repeat' ((first|refine nI ?_|refine aI ?_|refine tI ?_|refine fI ?_|fail);conv=>whnf)
  rw[tN,bi _ _ _ hi]
  refine ah ?_ ?_<;>(intro h4;conv=>whnf)
  ·exact⟨aN (by rw[he];exact h4),rfl⟩
  ·exact⟨aq (by rw[he];exact h4),rfl⟩
 rw[if_neg h2] at he
 by_cases h3:r.direction=3
 ·rw[if_pos h3] at he
  repeat' ((first|refine nI ?_|refine aI ?_|refine tI ?_|refine fI ?_|fail);conv=>whnf)
  rw[tN,bi _ _ _ hi]
  refine ah ?_ ?_<;>(intro h4;conv=>whnf)
  ·exact⟨aN (by rw[he];exact .inl h4),rfl⟩
  refine nI ?_
  rw[tN,bi _ _ _ hi]
  conv=>whnf
  refine ah ?_ ?_<;>(intro h5;conv=>whnf)
  ·exact⟨aN (by rw[he];exact .inr h5),rfl⟩
  ·exact⟨aq (by rw[he];exact fun h=>h.elim h4 h5),rfl⟩
 ·rw[if_neg h3] at he
  repeat' ((first|refine nI ?_|refine aI ?_|refine tI ?_|refine fI ?_|fail);conv=>whnf)
  rw[tN,bi _ _ _ hi]
  refine ah ?_ ?_<;>(intro h4;conv=>whnf)
  ·exact⟨aN (by rw[he];exact h4),rfl⟩
  ·exact⟨aq (by rw[he];exact h4),rfl⟩
end
end Go.Proofs.YtokjgegkhlkopaaGreatDoor
