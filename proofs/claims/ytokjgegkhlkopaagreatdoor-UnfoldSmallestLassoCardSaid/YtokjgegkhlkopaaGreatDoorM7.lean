import Derived.Test.YtokjgegkhlkopaaGreatDoorFoK
set_option linter.unusedVariables false
set_option linter.unusedSimpArgs false
namespace Go.Proofs.YtokjgegkhlkopaaGreatDoor
set_option maxRecDepth 100000
set_option maxHeartbeats 16000000
theorem Ks (p:ao) (s:az) (c:ap) (r:dh) (i:Int) (f:Bool) (h:c9 p s c) (hr:¬nO r) (hg:bZ p.messages.length r.guards=0):ae Tryz.prog 101 [.agg (bf p), .agg (b7 s), .agg (bg c), .agg (fD r), .int .i64 i, .bool f] (fun u=>u= .bool (decide (vw p s c r f/\xE c r i))):=by
 have hle:=aF h.big
 have hbr:=br hr
 have hc:=aL h.wide
 have hgs:=rL hg
 have hsn:=h.vc.snl
 have hfa:=h.vc.fal
 have hz:=h.siz
 unfold EK at hz
 refine ae.intro ab ac Tryz.func101 rfl (by decide) ?_;(conv=>whnf)
 refine am rfl ?_
 conv=>whnf
 refine am rfl ?_
 conv=>whnf
 refine am rfl ?_
 conv=>whnf
 refine am rfl ?_
 conv=>whnf
 refine aE.loopF ab ac (fun k:Nat=>k<=r.guards.length/\∀j,j<k->o3 p s c f (r.guards.getD j dv)) (fun k=>[(13, .int .i64 (k:Int))]) (fun _=>[]) (fun k=>r.guards.length-k) 0 ⟨by omega,fun j hj=>by omega⟩ ?_;conv=>whnf
 refine⟨sI,?_⟩
 rintro k ⟨hk,ha⟩
 conv=>whnf
 refine ah ?_ ?_<;>(intro h1;conv=>whnf)
 ·obtain⟨g1,g2,g3⟩:=hgs k (by omega)
  have nok:¬o3 p s c f (r.guards.getD k dv)->¬(vw p s c r f/\xE c r i):=fun hn hb=>hn (hb.1 k (by omega))
  have next:o3 p s c f (r.guards.getD k dv)->∀j,j<k+1->o3 p s c f (r.guards.getD j dv):=fun hn j hj=>by
   by_cases e:j=k
   ·subst e;exact hn
   ·exact ha j (by omega)
  refine nI ?_
  rw[tN]
  generalize r.guards.getD k dv=g at g1 g2 g3 nok next
  have hb:=EV (p:=p) (s:=s) (c:=c) (m:=g.message) f h.sent.1 h.sent.2 (by omega) (by omega)
  have hm:=Ja g2 hb
  conv=>whnf
  (refine oP (Cj g.bound s g3 h.siz) ?_;conv=>whnf)
  refine dI ?_
  conv=>whnf
  (refine oC (Kn p s c g.message f h.sent.1 h.sent.2 (by omega) (by omega)) ?_;conv=>whnf)
  repeat' ((first|refine nI ?_|refine aI ?_|refine tI ?_|refine fI ?_|fail);conv=>whnf)
  refine ah ?_ ?_<;>(intro h2;conv=>whnf)
  ·exact⟨aq (nok (by unfold o3;omega)),rfl⟩
  ·repeat' ((first|refine nI ?_|refine aI ?_|refine tI ?_|refine fI ?_|fail);conv=>whnf)
   exact⟨k+1,sI,⟨by omega,next (by unfold o3;omega)⟩,by dsimp only;omega⟩
 have hgrd:vw p s c r f:=fun j hj=>ha j (by omega)
 refine LJ ?_
 conv=>whnf
 refine aE.loopF ab ac (fun x:Nat×Bool=>x.1<=c.states.length/\(x.2=true↔exK c r.some_ i x.1)/\zF c r.forall_ i x.1) (fun x=>[(18, .int .i64 (x.1:Int)),(17, .bool x.2)]) (fun _=>[]) (fun x=>c.states.length-x.1) (0,decide ((r.some_.length:Int)=0)) ⟨Nat.zero_le _,by rw[xF,decide_eq_true_iff];omega,xG⟩ ?_;conv=>whnf
 refine⟨sI,?_⟩
 rintro⟨k,e⟩ ⟨hk,he,hf⟩
 dsimp only at hk he hf⊢
 cases e
 ·conv=>whnf
  refine ah ?_ ?_<;>(intro h1;conv=>whnf)
  case refine_2=>exact⟨aq (fun hh=>dw he (by rw[show k=c.states.length by omega];exact hh.2.1)),rfl⟩
  refine ah ?_ ?_<;>(intro h2;conv=>whnf)
  ·repeat' ((first|refine nI ?_|refine aI ?_|refine tI ?_|refine fI ?_|fail);conv=>whnf)
   exact⟨(k+1,_),sI,⟨by dsimp only;omega,he.trans (rM h2).symm,(rN h2).2 hf⟩,by dsimp only;omega⟩
  refine dI ?_
  conv=>whnf
  refine nI ?_
  rw[tN]
  conv=>whnf
  refine dD (xA r.some_ _ (by omega)) (fun _=>?_) (fun _=>?_)<;>(conv=>whnf)
  ·rename_i hin
   have hE:=dq (vz h2 hin)
   refine dI ?_
   conv=>whnf
   refine ah ?_ ?_<;>(intro h3;conv=>whnf)
   ·refine nI ?_
    rw[tN]
    conv=>whnf
    refine dD (xA r.forall_ _ (by omega)) (fun _=>?_) (fun _=>?_)<;>(conv=>whnf)
    ·rename_i h4
     repeat' ((first|refine nI ?_|refine aI ?_|refine tI ?_|refine fI ?_|fail);conv=>whnf)
     exact⟨(k+1,_),sI,⟨by dsimp only;omega,hE,qd hf h4⟩,by dsimp only;omega⟩
    ·rename_i h4
     exact⟨aq (fun hh=>hh.2.2.elim (by omega) (fun hq=>h4 (hq k (by omega) h2))),rfl⟩
   ·repeat' ((first|refine nI ?_|refine aI ?_|refine tI ?_|refine fI ?_|fail);conv=>whnf)
    exact⟨(k+1,_),sI,⟨by dsimp only;omega,hE,qc (by omega)⟩,by dsimp only;omega⟩
  ·rename_i hin
   have hE:=dZ (zG (dw he) hin)
   refine dI ?_
   conv=>whnf
   refine ah ?_ ?_<;>(intro h3;conv=>whnf)
   ·refine nI ?_
    rw[tN]
    conv=>whnf
    refine dD (xA r.forall_ _ (by omega)) (fun _=>?_) (fun _=>?_)<;>(conv=>whnf)
    ·rename_i h4
     repeat' ((first|refine nI ?_|refine aI ?_|refine tI ?_|refine fI ?_|fail);conv=>whnf)
     exact⟨(k+1,_),sI,⟨by dsimp only;omega,hE,qd hf h4⟩,by dsimp only;omega⟩
    ·rename_i h4
     exact⟨aq (fun hh=>hh.2.2.elim (by omega) (fun hq=>h4 (hq k (by omega) h2))),rfl⟩
   ·repeat' ((first|refine nI ?_|refine aI ?_|refine tI ?_|refine fI ?_|fail);conv=>whnf)
    exact⟨(k+1,_),sI,⟨by dsimp only;omega,hE,qc (by omega)⟩,by dsimp only;omega⟩
 ·conv=>whnf
  refine ah ?_ ?_<;>(intro h1;conv=>whnf)
  case refine_2=>exact⟨aN ⟨hgrd,by have:=he.1 rfl;rwa [show k=c.states.length by omega] at this,by rwa [show k=c.states.length by omega] at hf⟩,rfl⟩
  refine ah ?_ ?_<;>(intro h2;conv=>whnf)
  ·repeat' ((first|refine nI ?_|refine aI ?_|refine tI ?_|refine fI ?_|fail);conv=>whnf)
   exact⟨(k+1,_),sI,⟨by dsimp only;omega,he.trans (rM h2).symm,(rN h2).2 hf⟩,by dsimp only;omega⟩
  refine dI ?_
  conv=>whnf
  ·have hE:=dq (vy (i:=i) (he.1 rfl))
   refine dI ?_
   conv=>whnf
   refine ah ?_ ?_<;>(intro h3;conv=>whnf)
   ·refine nI ?_
    rw[tN]
    conv=>whnf
    refine dD (xA r.forall_ _ (by omega)) (fun _=>?_) (fun _=>?_)<;>(conv=>whnf)
    ·rename_i h4
     repeat' ((first|refine nI ?_|refine aI ?_|refine tI ?_|refine fI ?_|fail);conv=>whnf)
     exact⟨(k+1,_),sI,⟨by dsimp only;omega,hE,qd hf h4⟩,by dsimp only;omega⟩
    ·rename_i h4
     exact⟨aq (fun hh=>hh.2.2.elim (by omega) (fun hq=>h4 (hq k (by omega) h2))),rfl⟩
   ·repeat' ((first|refine nI ?_|refine aI ?_|refine tI ?_|refine fI ?_|fail);conv=>whnf)
    exact⟨(k+1,_),sI,⟨by dsimp only;omega,hE,qc (by omega)⟩,by dsimp only;omega⟩
theorem lF (p:ao) (s:az) (c:ap) (x:aQ) (f:Bool) (h:c9 p s c):ae Tryz.prog 61 [.agg (bf p), .agg (b7 s), .agg (bg c), .agg (cH x), .bool f] (fun u=>u= .bool (decide (cz p s c x f))):=by
 have hle:=aF h.big
 have hc:=aL h.wide
 refine ae.intro ab ac Tryz.func61 rfl (by decide) ?_;(conv=>whnf)
 refine am rfl ?_
 conv=>whnf
 refine am rfl ?_
 conv=>whnf
 refine am rfl ?_
 conv=>whnf
 refine am rfl ?_
 conv=>whnf
 repeat' ((first|refine nI ?_|refine aI ?_|refine tI ?_|refine fI ?_|fail);conv=>whnf)
 refine dC (kC _ _ _) (fun _=>?_) (fun _=>?_)<;>(conv=>whnf)
 case refine_2=>rename_i hh;exact⟨aq (fun hn=>hh (by have:=hn.1;omega)),rfl⟩
 rename_i h1
 repeat' ((first|refine nI ?_|refine aI ?_|refine tI ?_|refine fI ?_|fail);conv=>whnf)
 refine dC (kC _ _ _) (fun _=>?_) (fun _=>?_)<;>(conv=>whnf)
 case refine_2=>rename_i hh;exact⟨aq (fun hn=>hh (by have:=hn.1;omega)),rfl⟩
 rename_i h3
 have yes:Jc p s c (p.rules.getD x.rule.toNat au) x f->cz p s c x f:=fun hh=>⟨by omega,hh⟩
 have no:¬Jc p s c (p.rules.getD x.rule.toNat au) x f->¬cz p s c x f:=fun hn hh=>hn hh.2
 have hR:=aK h.val (i:=x.rule.toNat) (by omega)
 have hB:=aY h.big (j:=x.rule.toNat) (by omega)
 have hbr:=br hB
 refine dP ?_
 conv=>whnf
 refine nI ?_
 generalize p.rules.getD x.rule.toNat au=r at yes no hR hB hbr
 have hrd:=hR.read
 have hfit:=hR.fit
 unfold cj at hfit
 conv=>whnf
 refine dI ?_
 conv=>whnf
 refine nI ?_
 conv=>whnf
 refine ah ?_ ?_<;>(intro h5;conv=>whnf)
 ·exact⟨aq (no (fun hh=>h5 hh.1)),rfl⟩
 have h5':c.states.getD x.process.toNat 0=r.src:=by
  by_cases e:c.states.getD x.process.toNat 0=r.src
  ·exact e
  ·exact absurd e h5
 by_cases h6:r.read=-1\/c.value=r.read
 case neg=>
  repeat' ((first|refine nI ?_|refine aI ?_|refine tI ?_|refine fI ?_|fail);conv=>whnf)
  exact⟨aq (no (fun hh=>h6 hh.2.1)),rfl⟩
 have yes2:tb p s c r x f->cz p s c x f:=fun hh=>yes ⟨h5',h6,hh⟩
 have no2:¬tb p s c r x f->¬cz p s c x f:=fun hn=>no (fun hh=>hn hh.2.2)
 have hkb:tb p s c r x f=(if r.kind=2\/r.kind=5 then xH c r x/\(r.kind=2\/vC p c r x.process.toNat x.partner)
  else x.partner=-1/\(if r.kind=1 then vw p s c r f/\xE c r x.process else if r.kind=3 then True else Kq p c r x.process.toNat)):=rfl
 rw[hkb] at yes2 no2
 have hlt:=I8 (t:=p.topology) (l:=c.shape) (n:=c.states.length) (i:=x.process.toNat) (by omega)
 have hlp:=Jb (t:=p.topology) (l:=c.shape) (n:=c.states.length) (i:=x.process.toNat) (by omega)
 have hN:ae Tryz.prog 100 [.int .i64 p.topology, .sl 0 aD c.shape, .int .i64 (c.states.length:Int), .int .i64 x.process] (fun u=>u= .tup [.int .i64 (rk p.topology c.shape c.states.length x.process.toNat), .int .i64 (p7 p.topology c.shape c.states.length x.process.toNat), .int .i64 (s2 p.topology c.shape c.states.length x.process.toNat)]):=by
  have hN:=zE p.topology c.shape c.states.length x.process.toNat (by omega) (by omega) (by omega)
  rw[EU (by omega),mT (by omega)] at hN
  exact hN
 have eF:nF p c x.process.toNat=rk p.topology c.shape c.states.length x.process.toNat:=rfl
 have eS:nS p c x.process.toNat=p7 p.topology c.shape c.states.length x.process.toNat:=rfl
 have eP:nP p c x.process.toNat=s2 p.topology c.shape c.states.length x.process.toNat:=rfl
 have hcase:(r.read=-1)\/(r.read≠-1/\c.value=r.read):=by omega
 rcases hcase with h7|⟨h7,h8⟩
 all_goals
  repeat' ((first|refine nI ?_|refine aI ?_|refine tI ?_|refine fI ?_|fail);conv=>whnf)
  (refine oP (hN) ?_;conv=>whnf)
  by_cases k25:r.kind=2\/r.kind=5
  ·rw[if_pos k25] at yes2 no2
   have hpas:vC p c r x.process.toNat x.partner=(if r.direction=1 then nS p c x.process.toNat=x.partner else if r.direction=2 then nF p c x.process.toNat=x.partner else if r.direction=3 then(nF p c x.process.toNat=x.partner\/nS p c x.process.toNat=x.partner) else nP p c x.process.toNat=x.partner):=rfl
   by_cases k2:r.kind=2
   all_goals
    repeat' ((first|refine nI ?_|refine aI ?_|refine tI ?_|refine fI ?_|fail);conv=>whnf)
    refine dI ?_
    conv=>whnf
    repeat' ((first|refine nI ?_|refine aI ?_|refine tI ?_|refine fI ?_|fail);conv=>whnf)
    refine dD (kC _ _ _) (fun _=>?_) (fun _=>?_)<;>(conv=>whnf)
    case refine_2=>rename_i hh;exact⟨aq (no2 (fun hn=>hh (by have:=hn.1.1;have:=hn.1.2.1;omega))),rfl⟩
    rename_i g1
    refine ah ?_ ?_<;>(intro g3;conv=>whnf)
    ·exact⟨aq (no2 (fun hn=>hn.1.2.2.1 g3)),rfl⟩
    refine nI ?_
    conv=>whnf
    refine ah ?_ ?_<;>(intro g4;conv=>whnf)
    ·exact⟨aq (no2 (fun hn=>g4 hn.1.2.2.2)),rfl⟩
    have hpr:xH c r x:=⟨by omega,by omega,g3,by
     by_cases e:c.states.getD x.partner.toNat 0=r.pfrom
     ·exact e
     ·exact absurd e g4⟩
    repeat' ((first|refine nI ?_|refine aI ?_|refine tI ?_|refine fI ?_|fail);conv=>whnf)
   case pos=>exact⟨aN (yes2 ⟨hpr, .inl k2⟩),rfl⟩
   have yes3:vC p c r x.process.toNat x.partner->cz p s c x f:=fun hh=>yes2 ⟨hpr, .inr hh⟩
   have no3:¬vC p c r x.process.toNat x.partner->¬cz p s c x f:=fun hn=>no2 (fun hh=>hh.2.elim k2 hn)
   rw[hpas] at yes3 no3
   refine ah ?_ ?_<;>(intro d1;conv=>whnf)
   ·rw[if_pos d1] at yes3 no3
    refine ah ?_ ?_<;>(intro d2;conv=>whnf)
    ·exact⟨aN (yes3 (by omega)),rfl⟩
    ·exact⟨aq (no3 (by omega)),rfl⟩
   rw[if_neg d1] at yes3 no3
   refine ah ?_ ?_<;>(intro d2;conv=>whnf)
   ·rw[if_pos d2] at yes3 no3
    refine ah ?_ ?_<;>(intro d3;conv=>whnf)
    ·exact⟨aN (yes3 (by omega)),rfl⟩
    ·exact⟨aq (no3 (by omega)),rfl⟩
   rw[if_neg d2] at yes3 no3
   refine ah ?_ ?_<;>(intro d3;conv=>whnf)
   ·rw[if_pos d3] at yes3 no3
    refine ah ?_ ?_<;>(intro d4;conv=>whnf)
    ·exact⟨aN (yes3 (by omega)),rfl⟩
    refine ah ?_ ?_<;>(intro d5;conv=>whnf)
    ·exact⟨aN (yes3 (by omega)),rfl⟩
    ·exact⟨aq (no3 (by omega)),rfl⟩
   ·rw[if_neg d3] at yes3 no3
    refine ah ?_ ?_<;>(intro d4;conv=>whnf)
    ·exact⟨aN (yes3 (by omega)),rfl⟩
    ·exact⟨aq (no3 (by omega)),rfl⟩
  rw[if_neg k25] at yes2 no2
  by_cases hpa:x.partner=-1
  case neg=>
   repeat' ((first|refine nI ?_|refine aI ?_|refine tI ?_|refine fI ?_|fail);conv=>whnf)
   exact⟨aq (no2 (fun hh=>hpa hh.1)),rfl⟩
  by_cases k1:r.kind=1
  ·rw[if_pos k1] at yes2 no2
   repeat' ((first|refine nI ?_|refine aI ?_|refine tI ?_|refine fI ?_|fail);conv=>whnf)
   refine dC (Ks p s c r x.process f h hB (hR.guards k1)) (fun _=>?_) (fun _=>?_)<;>(conv=>whnf)
   ·rename_i h10;exact⟨aN (yes2 ⟨hpa,h10⟩),rfl⟩
   ·rename_i h10;exact⟨aq (no2 (fun hh=>h10 hh.2)),rfl⟩
  rw[if_neg k1] at yes2 no2
  by_cases k3:r.kind=3
  ·rw[if_pos k3] at yes2 no2
   repeat' ((first|refine nI ?_|refine aI ?_|refine tI ?_|refine fI ?_|fail);conv=>whnf)
   exact⟨aN (yes2 ⟨hpa,trivial⟩),rfl⟩
  rw[if_neg k3] at yes2 no2
  have k4:r.kind=4:=by omega
  by_cases a1:r.at_=1/\x.process≠0
  ·repeat' ((first|refine nI ?_|refine aI ?_|refine tI ?_|refine fI ?_|fail);conv=>whnf)
   exact⟨aq (no2 (fun hh=>a1.2 (by have:=hh.2.1.1 a1.1;omega))),rfl⟩
  by_cases a2:r.at_=2/\((p.topology=2/\nS p c x.process.toNat≠-1)\/(p.topology=4/\nF p c x.process.toNat≠-1))
  ·have hno:¬cz p s c x f:=no2 (fun hh=>by
    have:=hh.2.1.2 a2.1
    rcases a2.2 with a3|a3
    ·exact a3.2 (this.1 a3.1)
    ·exact a3.2 (this.2 a3.1))
   repeat' ((first|refine nI ?_|refine aI ?_|refine uI ?_|refine vI ?_|refine dI ?_|refine dR ?_|refine dP ?_|refine am rfl ?_|refine pI _ rfl ?_|refine ak _ rfl ?_|refine tI ?_|refine fI ?_|refine ah (fun _=>?_) (fun _=>?_))<;>conv=>whnf)
   all_goals exact⟨aq hno,rfl⟩
  have hpos:Cl p c r x.process.toNat:=⟨fun e=>by omega,fun e=>⟨fun e2=>by omega,fun e2=>by omega⟩⟩
  repeat' ((first|refine nI ?_|refine aI ?_|refine uI ?_|refine vI ?_|refine dI ?_|refine dR ?_|refine dP ?_|refine am rfl ?_|refine pI _ rfl ?_|refine ak _ rfl ?_|refine tI ?_|refine fI ?_|refine ah (fun _=>?_) (fun _=>?_))<;>conv=>whnf)
  all_goals first
   |(exfalso;omega)
   |skip
  all_goals
   refine dC (rO c r.left _ (by omega) (by omega) h.wide) (fun _=>?_) (fun _=>?_)<;>(conv=>whnf)
   case refine_2=>rename_i h10;exact⟨aq (no2 (fun hh=>h10 hh.2.2.1)),rfl⟩
   rename_i h10
   refine dC (rO c r.right _ (by omega) (by omega) h.wide) (fun _=>?_) (fun _=>?_)<;>(conv=>whnf)
   case refine_2=>rename_i h11;exact⟨aq (no2 (fun hh=>h11 hh.2.2.2.1)),rfl⟩
   rename_i h11
   refine dC (rO c r.parent _ (by omega) (by omega) h.wide) (fun _=>?_) (fun _=>?_)<;>(conv=>whnf)
   ·rename_i h12;exact⟨aN (yes2 ⟨hpa,hpos,h10,h11,h12⟩),rfl⟩
   ·rename_i h12;exact⟨aq (no2 (fun hh=>h12 hh.2.2.2.2)),rfl⟩
def xJ (p:ao) (s:az) (c:ap) (r i:Int):Prop:=i<c.correct/\∃k:Nat,k<=c.states.length/\cz p s c ⟨r,i,(k:Int)-1⟩ true
noncomputable instance decFc (p:ao) (s:az) (c:ap) (r i:Int):Decidable (xJ p s c r i):=Classical.propDecidable _
theorem HF (p:ao) (s:az) (c:ap) (r i:Int) (h:c9 p s c):ae Tryz.prog 127 [.agg (iP p s c), .int .i64 r, .int .i64 i] (fun u=>u= .bool (decide (xJ p s c r i))):=by
 have hc:=aL h.wide
 refine ae.intro ab ac Tryz.func127 rfl (by decide) ?_;(conv=>whnf)
 refine am rfl ?_
 conv=>whnf
 refine ah ?_ ?_<;>(intro h1;conv=>whnf)
 ·exact⟨aq (fun hh=>by obtain⟨_,k,_,he⟩:=hh;have:=he.1.2.1;dsimp only at this;omega),rfl⟩
 refine ah ?_ ?_<;>(intro h2;conv=>whnf)
 ·exact⟨aq (fun hh=>by have:=hh.1;omega),rfl⟩
 refine aE.loopF ab ac (fun k:Nat=>k<=c.states.length+1/\∀j:Nat,j<k->¬cz p s c ⟨r,i,(j:Int)-1⟩ true) (fun k=>[(7, .int .i64 ((k:Int)-1))]) (fun _=>[]) (fun k=>c.states.length+1-k) 0 ⟨by omega,fun j hj=>by omega⟩ ?_;conv=>whnf
 refine⟨sI,?_⟩
 rintro k ⟨hk,ha⟩
 conv=>whnf
 refine ah ?_ ?_<;>(intro h3;conv=>whnf)
 ·refine dC (xI p s c ⟨r,i,(k:Int)-1⟩ true h) (fun _=>?_) (fun _=>?_)<;>(conv=>whnf)
  ·rename_i h4
   exact⟨aN ⟨by omega,k,by omega,h4⟩,rfl⟩
  ·rename_i h4
   repeat' ((first|refine nI ?_|refine aI ?_|refine tI ?_|refine fI ?_|fail);conv=>whnf)
   refine⟨k+1,sI,⟨by omega,fun j hj=>?_⟩,by dsimp only;omega⟩
   by_cases e:j=k
   ·subst e;exact h4
   ·exact ha j (by omega)
 ·exact⟨aq (fun⟨_,j,hj,he⟩=>ha j (by omega) he),rfl⟩
theorem uc (p:ao) (s:az) (c:ap) (r i:Int) (h:c9 p s c):ae Tryz.prog 31 [.agg (bf p), .agg (b7 s), .agg (bg c), .int .i64 r, .int .i64 i] (fun u=>u= .bool (decide (xJ p s c r i))):=by
 have hc:=aL h.wide
 refine ae.intro ab ac Tryz.func31 rfl (by decide) ?_;(conv=>whnf)
 refine am rfl ?_
 conv=>whnf
 refine am rfl ?_
 conv=>whnf
 refine am rfl ?_
 conv=>whnf
 refine ah ?_ ?_<;>(intro h2;conv=>whnf)
 ·exact⟨aq (fun hh=>by have:=hh.1;omega),rfl⟩
 refine aE.loopF ab ac (fun k:Nat=>k<=c.states.length+1/\∀j:Nat,j<k->¬cz p s c ⟨r,i,(j:Int)-1⟩ true) (fun k=>[(11, .int .i64 ((k:Int)-1))]) (fun _=>[]) (fun k=>c.states.length+1-k) 0 ⟨by omega,fun j hj=>by omega⟩ ?_;conv=>whnf
 refine⟨sI,?_⟩
 rintro k ⟨hk,ha⟩
 conv=>whnf
 refine ah ?_ ?_<;>(intro h3;conv=>whnf)
 ·refine dC (lF p s c ⟨r,i,(k:Int)-1⟩ true h) (fun _=>?_) (fun _=>?_)<;>(conv=>whnf)
  ·rename_i h4
   exact⟨aN ⟨by omega,k,by omega,h4⟩,rfl⟩
  ·rename_i h4
   repeat' ((first|refine nI ?_|refine aI ?_|refine tI ?_|refine fI ?_|fail);conv=>whnf)
   refine⟨k+1,sI,⟨by omega,fun j hj=>?_⟩,by dsimp only;omega⟩
   by_cases e:j=k
   ·subst e;exact h4
   ·exact ha j (by omega)
 ·exact⟨aq (fun⟨_,j,hj,he⟩=>ha j (by omega) he),rfl⟩
end Go.Proofs.YtokjgegkhlkopaaGreatDoor
