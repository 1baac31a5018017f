import Derived.Test.YtekmminpfhacpaaGreatDoorM6
set_option linter.unusedVariables false
set_option linter.unusedSimpArgs false
namespace Go.Proofs.YtekmminpfhacpaaGreatDoor
set_option maxRecDepth 100000
set_option maxHeartbeats 16000000
theorem kG {i:Int} (h:0<=i):((i.toNat:Nat):Int)=i:=by omega
theorem o8 (p:an) (s:aC) (c:ay) (x:cj) (f:Bool) (h:dk p s c):ab Tryz.prog 163 [.agg (mV p s c), .agg (ef x), .bool f] (fun u=>u= .bool (decide (iZ p s c x f))):=by
 have hle:=aO h.big
 have hc:=br h.wide
 have f1:((List.range c.states.length).map (om p.topology c.shape c.states.length)).length=c.states.length:=by simp
 have f2:((List.range c.states.length).map (oo p.topology c.shape c.states.length)).length=c.states.length:=by simp
 have f3:((List.range c.states.length).map (pu p.topology c.shape c.states.length)).length=c.states.length:=by simp
 refine ab.intro ac ae Tryz.func163 rfl (by decide) ?_;(conv=>whnf)
 refine ak rfl ?_
 conv=>whnf
 refine ak rfl ?_
 conv=>whnf
 refine ag ?_ ?_<;>(intro h1;conv=>whnf)
 ·exact⟨al (fun hh=>by have:=hh.1;omega),rfl⟩
 refine ag ?_ ?_<;>(intro h2;conv=>whnf)
 ·exact⟨al (fun hh=>by have:=hh.1;omega),rfl⟩
 refine ag ?_ ?_<;>(intro h3;conv=>whnf)
 ·exact⟨al (fun hh=>by have:=hh.1;omega),rfl⟩
 refine ag ?_ ?_<;>(intro h4;conv=>whnf)
 ·exact⟨al (fun hh=>by have:=hh.1;omega),rfl⟩
 have yes:G1 p s c (p.rules.getD x.rule.toNat aq) x f->iZ p s c x f:=fun hh=>⟨by omega,hh⟩
 have no:¬G1 p s c (p.rules.getD x.rule.toNat aq) x f->¬iZ p s c x f:=fun hn hh=>hn hh.2
 have hR:=cG h.val (i:=x.rule.toNat) (by omega)
 have hB:=cQ h.big (j:=x.rule.toNat) (by omega)
 have hbr:=dh hB
 refine nI ?_
 generalize p.rules.getD x.rule.toNat aq=r at yes no hR hB hbr
 have hrd:=hR.read
 have hfit:=hR.fit
 unfold dV at hfit
 conv=>whnf
 refine dI ?_
 conv=>whnf
 refine nI ?_
 conv=>whnf
 refine ag ?_ ?_<;>(intro h5;conv=>whnf)
 ·exact⟨al (no (fun hh=>h5 hh.1)),rfl⟩
 have h5':c.states.getD x.process.toNat 0=r.src:=by
  by_cases e:c.states.getD x.process.toNat 0=r.src
  ·exact e
  ·exact absurd e h5
 by_cases h6:r.read=-1\/c.value=r.read
 case neg=>
  repeat' ((first|refine nI ?_|refine aI ?_|refine tI ?_|refine fI ?_|fail);conv=>whnf)
  exact⟨al (no (fun hh=>h6 hh.2.1)),rfl⟩
 have yes2:pz p s c r x f->iZ p s c x f:=fun hh=>yes ⟨h5',h6,hh⟩
 have no2:¬pz p s c r x f->¬iZ p s c x f:=fun hn=>no (fun hh=>hn hh.2.2)
 have hkb:pz p s c r x f=(if r.kind=2\/r.kind=5 then Af c r x/\(r.kind=2\/rC p c r x.process.toNat x.partner)
  else x.partner=-1/\(if r.kind=1 then rq p s c r f/\u6 c r x.process else if r.kind=3 then True else E8 p c r x.process.toNat)):=rfl
 rw[hkb] at yes2 no2
 have hcase:(r.read=-1)\/(0<=r.read/\c.value=r.read):=by omega
 rcases hcase with h7|⟨h7,h8⟩
 all_goals
  repeat' ((first|refine nI ?_|refine aI ?_|refine tI ?_|refine fI ?_|fail);conv=>whnf)
  by_cases k25:r.kind=2\/r.kind=5
  ·rw[if_pos k25] at yes2 no2
   by_cases hpr:Af c r x
   case neg=>
    have hpr':¬(0<=x.partner/\x.partner<c.states.length/\x.partner≠x.process/\c.states.getD x.partner.toNat 0=r.pfrom):=hpr
    rcases k25 with k2|k5
    all_goals
     repeat' ((first|refine nI ?_|refine aI ?_|refine tI ?_|refine fI ?_|fail);conv=>whnf)
     refine dI ?_
     conv=>whnf
     refine ag ?_ ?_<;>(intro g1;conv=>whnf)
     ·exact⟨al (no2 (fun hh=>hpr hh.1)),rfl⟩
     refine ag ?_ ?_<;>(intro g2;conv=>whnf)
     ·exact⟨al (no2 (fun hh=>hpr hh.1)),rfl⟩
     refine ag ?_ ?_<;>(intro g3;conv=>whnf)
     ·exact⟨al (no2 (fun hh=>hpr hh.1)),rfl⟩
     refine nI ?_
     conv=>whnf
     refine tI ?_
     conv=>whnf
     exact⟨al (no2 (fun hh=>hpr hh.1)),rfl⟩
   obtain⟨g1,g2,g3,g4⟩:=id hpr
   by_cases k2:r.kind=2
   ·repeat' ((first|refine nI ?_|refine aI ?_|refine tI ?_|refine fI ?_|fail);conv=>whnf)
    refine dI ?_
    conv=>whnf
    repeat' ((first|refine nI ?_|refine aI ?_|refine tI ?_|refine fI ?_|fail);conv=>whnf)
    exact⟨av (yes2 ⟨hpr, .inl k2⟩),rfl⟩
   ·repeat' ((first|refine nI ?_|refine aI ?_|refine tI ?_|refine fI ?_|fail);conv=>whnf)
    refine dI ?_
    conv=>whnf
    repeat' ((first|refine nI ?_|refine aI ?_|refine tI ?_|refine fI ?_|fail);conv=>whnf)
    have hp:=CT p s c r x.process.toNat x.partner (by omega)
    rw[kG (by omega)] at hp
    refine dC (hp) (fun _=>?_) (fun _=>?_)<;>(conv=>whnf)
    ·rename_i h9;exact⟨av (yes2 ⟨hpr, .inr h9⟩),rfl⟩
    ·rename_i h9;exact⟨al (no2 (fun hh=>hh.2.elim k2 h9)),rfl⟩
  rw[if_neg k25] at yes2 no2
  by_cases hpa:x.partner=-1
  case neg=>
   repeat' ((first|refine nI ?_|refine aI ?_|refine tI ?_|refine fI ?_|fail);conv=>whnf)
   exact⟨al (no2 (fun hh=>hpa hh.1)),rfl⟩
  by_cases k1:r.kind=1
  ·rw[if_pos k1] at yes2 no2
   repeat' ((first|refine nI ?_|refine aI ?_|refine tI ?_|refine fI ?_|fail);conv=>whnf)
   refine dC (CP p s c r f h hB (hR.guards k1)) (fun _=>?_) (fun _=>?_)<;>(conv=>whnf)
   case refine_2=>rename_i h9;exact⟨al (no2 (fun hh=>h9 hh.2.1)),rfl⟩
   rename_i h9
   refine dC (CS p s c r x.process h.wide hB) (fun _=>?_) (fun _=>?_)<;>(conv=>whnf)
   ·rename_i h10;exact⟨av (yes2 ⟨hpa,h9,h10⟩),rfl⟩
   ·rename_i h10;exact⟨al (no2 (fun hh=>h10 hh.2.2)),rfl⟩
  rw[if_neg k1] at yes2 no2
  by_cases k3:r.kind=3
  ·rw[if_pos k3] at yes2 no2
   repeat' ((first|refine nI ?_|refine aI ?_|refine tI ?_|refine fI ?_|fail);conv=>whnf)
   exact⟨av (yes2 ⟨hpa,trivial⟩),rfl⟩
  rw[if_neg k3] at yes2 no2
  have k4:r.kind=4:=by omega
  have hlt:=Ef (t:=p.topology) (l:=c.shape) (n:=c.states.length) (i:=x.process.toNat) (by omega)
  have hlp:=Ei (t:=p.topology) (l:=c.shape) (n:=c.states.length) (i:=x.process.toNat) (by omega)
  repeat' ((first|refine nI ?_|refine aI ?_|refine tI ?_|refine fI ?_|fail);conv=>whnf)
  refine dI ?_
  conv=>whnf
  have hpo:=xP p s c r x.process.toNat h hR k4 (by omega)
  rw[kG (by omega)] at hpo
  refine dD (hpo) (fun _=>?_) (fun _=>?_)<;>(conv=>whnf)
  case refine_2=>rename_i h9;exact⟨al (no2 (fun hh=>h9 hh.2.1)),rfl⟩
  rename_i h9
  refine nI ?_
  rw[aH _ _ _ (by omega)]
  conv=>whnf
  refine dD (Ae p s c r.left _ (by omega) (by omega) h.wide) (fun _=>?_) (fun _=>?_)<;>(conv=>whnf)
  case refine_2=>rename_i h10;exact⟨al (no2 (fun hh=>h10 hh.2.2.1)),rfl⟩
  rename_i h10
  refine nI ?_
  rw[aH _ _ _ (by omega)]
  conv=>whnf
  refine dD (Ae p s c r.right _ (by omega) (by omega) h.wide) (fun _=>?_) (fun _=>?_)<;>(conv=>whnf)
  case refine_2=>rename_i h11;exact⟨al (no2 (fun hh=>h11 hh.2.2.2.1)),rfl⟩
  rename_i h11
  refine nI ?_
  rw[aH _ _ _ (by omega)]
  conv=>whnf
  refine dD (Ae p s c r.parent _ (by omega) (by omega) h.wide) (fun _=>?_) (fun _=>?_)<;>(conv=>whnf)
  ·rename_i h12;exact⟨av (yes2 ⟨hpa,h9,h10,h11,h12⟩),rfl⟩
  ·rename_i h12;exact⟨al (no2 (fun hh=>h12 hh.2.2.2.2)),rfl⟩
theorem FR (p:an) (s:aC) (c:ay) (r:bC) (i:Int) (f:Bool) (h:dk p s c) (hr:¬lp r) (hg:aZ p.messages.length r.guards=0):ab Tryz.prog 281 [.agg (aB p), .agg (bv s), .agg (bd c), .agg (ee r), .int .i64 i, .bool f] (fun u=>u= .bool (decide (rq p s c r f/\u6 c r i))):=by
 have hle:=aO h.big
 have hbr:=dh hr
 have hc:=br h.wide
 have hgs:=kD hg
 have hsn:=h.vc.snl
 have hfa:=h.vc.fal
 have hz:=h.siz
 unfold zV at hz
 refine ab.intro ac ae Tryz.func281 rfl (by decide) ?_;(conv=>whnf)
 refine ak rfl ?_
 conv=>whnf
 refine ak rfl ?_
 conv=>whnf
 refine ak rfl ?_
 conv=>whnf
 refine ak rfl ?_
 conv=>whnf
 refine aF.loopF ac ae (fun k:Nat=>k<=r.guards.length/\∀j,j<k->lB p s c f (r.guards.getD j aA)) (fun k=>[(13, .int .i64 (k:Int))]) (fun _=>[]) (fun k=>r.guards.length-k) 0 ⟨by omega,fun j hj=>by omega⟩ ?_;conv=>whnf
 refine⟨sI,?_⟩
 rintro k ⟨hk,ha⟩
 conv=>whnf
 refine ag ?_ ?_<;>(intro h1;conv=>whnf)
 ·obtain⟨g1,g2,g3⟩:=hgs k (by omega)
  have nok:¬lB p s c f (r.guards.getD k aA)->¬(rq p s c r f/\u6 c r i):=fun hn hb=>hn (hb.1 k (by omega))
  have next:lB p s c f (r.guards.getD k aA)->∀j,j<k+1->lB p s c f (r.guards.getD j aA):=fun hn j hj=>by
   by_cases e:j=k
   ·subst e;exact hn
   ·exact ha j (by omega)
  refine nI ?_
  rw[tN]
  generalize r.guards.getD k aA=g at g1 g2 g3 nok next
  have hb:=Aa (p:=p) (s:=s) (c:=c) (m:=g.message) f h.sent.1 h.sent.2 (by omega) (by omega)
  have hm:=Eh g2 hb
  conv=>whnf
  (refine oP (qm g.bound s g3 h.siz) ?_;conv=>whnf)
  refine dI ?_
  conv=>whnf
  (refine oC (E5 p s c g.message f h.sent.1 h.sent.2 (by omega) (by omega)) ?_;conv=>whnf)
  repeat' ((first|refine nI ?_|refine aI ?_|refine tI ?_|refine fI ?_|fail);conv=>whnf)
  refine ag ?_ ?_<;>(intro h2;conv=>whnf)
  ·exact⟨al (nok (by unfold lB;omega)),rfl⟩
  ·repeat' ((first|refine nI ?_|refine aI ?_|refine tI ?_|refine fI ?_|fail);conv=>whnf)
   exact⟨k+1,sI,⟨by omega,next (by unfold lB;omega)⟩,by dsimp only;omega⟩
 have hgrd:rq p s c r f:=fun j hj=>ha j (by omega)
 refine Gq ?_
 conv=>whnf
 refine aF.loopF ac ae (fun x:Nat×Bool=>x.1<=c.states.length/\(x.2=true↔Ad c r.some_ i x.1)/\yA c r.forall_ i x.1) (fun x=>[(18, .int .i64 (x.1:Int)),(17, .bool x.2)]) (fun _=>[]) (fun x=>c.states.length-x.1) (0,decide ((r.some_.length:Int)=0)) ⟨Nat.zero_le _,by rw[tC,decide_eq_true_iff];omega,tD⟩ ?_;conv=>whnf
 refine⟨sI,?_⟩
 rintro⟨k,e⟩ ⟨hk,he,hf⟩
 dsimp only at hk he hf⊢
 cases e
 ·conv=>whnf
  refine ag ?_ ?_<;>(intro h1;conv=>whnf)
  case refine_2=>exact⟨al (fun hh=>mW he (by rw[show k=c.states.length by omega];exact hh.2.1)),rfl⟩
  refine ag ?_ ?_<;>(intro h2;conv=>whnf)
  ·repeat' ((first|refine nI ?_|refine aI ?_|refine tI ?_|refine fI ?_|fail);conv=>whnf)
   exact⟨(k+1,_),sI,⟨by dsimp only;omega,he.trans (oB h2).symm,(oD h2).2 hf⟩,by dsimp only;omega⟩
  refine dI ?_
  conv=>whnf
  refine nI ?_
  rw[tN]
  conv=>whnf
  refine dD (u4 r.some_ _ (by omega)) (fun _=>?_) (fun _=>?_)<;>(conv=>whnf)
  ·rename_i hin
   have hE:=mw (rz h2 hin)
   refine dI ?_
   conv=>whnf
   refine ag ?_ ?_<;>(intro h3;conv=>whnf)
   ·refine nI ?_
    rw[tN]
    conv=>whnf
    refine dD (u4 r.forall_ _ (by omega)) (fun _=>?_) (fun _=>?_)<;>(conv=>whnf)
    ·rename_i h4
     repeat' ((first|refine nI ?_|refine aI ?_|refine tI ?_|refine fI ?_|fail);conv=>whnf)
     exact⟨(k+1,_),sI,⟨by dsimp only;omega,hE,na hf h4⟩,by dsimp only;omega⟩
    ·rename_i h4
     exact⟨al (fun hh=>hh.2.2.elim (by omega) (fun hq=>h4 (hq k (by omega) h2))),rfl⟩
   ·repeat' ((first|refine nI ?_|refine aI ?_|refine tI ?_|refine fI ?_|fail);conv=>whnf)
    exact⟨(k+1,_),sI,⟨by dsimp only;omega,hE,m9 (by omega)⟩,by dsimp only;omega⟩
  ·rename_i hin
   have hE:=rA (u7 (mW he) hin)
   refine dI ?_
   conv=>whnf
   refine ag ?_ ?_<;>(intro h3;conv=>whnf)
   ·refine nI ?_
    rw[tN]
    conv=>whnf
    refine dD (u4 r.forall_ _ (by omega)) (fun _=>?_) (fun _=>?_)<;>(conv=>whnf)
    ·rename_i h4
     repeat' ((first|refine nI ?_|refine aI ?_|refine tI ?_|refine fI ?_|fail);conv=>whnf)
     exact⟨(k+1,_),sI,⟨by dsimp only;omega,hE,na hf h4⟩,by dsimp only;omega⟩
    ·rename_i h4
     exact⟨al (fun hh=>hh.2.2.elim (by omega) (fun hq=>h4 (hq k (by omega) h2))),rfl⟩
   ·repeat' ((first|refine nI ?_|refine aI ?_|refine tI ?_|refine fI ?_|fail);conv=>whnf)
    exact⟨(k+1,_),sI,⟨by dsimp only;omega,hE,m9 (by omega)⟩,by dsimp only;omega⟩
 ·conv=>whnf
  refine ag ?_ ?_<;>(intro h1;conv=>whnf)
  case refine_2=>exact⟨av ⟨hgrd,by have:=he.1 rfl;rwa [show k=c.states.length by omega] at this,by rwa [show k=c.states.length by omega] at hf⟩,rfl⟩
  refine ag ?_ ?_<;>(intro h2;conv=>whnf)
  ·repeat' ((first|refine nI ?_|refine aI ?_|refine tI ?_|refine fI ?_|fail);conv=>whnf)
   exact⟨(k+1,_),sI,⟨by dsimp only;omega,he.trans (oB h2).symm,(oD h2).2 hf⟩,by dsimp only;omega⟩
  refine dI ?_
  conv=>whnf
  ·have hE:=mw (rr (i:=i) (he.1 rfl))
   refine dI ?_
   conv=>whnf
   refine ag ?_ ?_<;>(intro h3;conv=>whnf)
   ·refine nI ?_
    rw[tN]
    conv=>whnf
    refine dD (u4 r.forall_ _ (by omega)) (fun _=>?_) (fun _=>?_)<;>(conv=>whnf)
    ·rename_i h4
     repeat' ((first|refine nI ?_|refine aI ?_|refine tI ?_|refine fI ?_|fail);conv=>whnf)
     exact⟨(k+1,_),sI,⟨by dsimp only;omega,hE,na hf h4⟩,by dsimp only;omega⟩
    ·rename_i h4
     exact⟨al (fun hh=>hh.2.2.elim (by omega) (fun hq=>h4 (hq k (by omega) h2))),rfl⟩
   ·repeat' ((first|refine nI ?_|refine aI ?_|refine tI ?_|refine fI ?_|fail);conv=>whnf)
    exact⟨(k+1,_),sI,⟨by dsimp only;omega,hE,m9 (by omega)⟩,by dsimp only;omega⟩
theorem lO (p:an) (s:aC) (c:ay) (x:cj) (f:Bool) (h:dk p s c):ab Tryz.prog 248 [.agg (aB p), .agg (bv s), .agg (bd c), .agg (ef x), .bool f] (fun u=>u= .bool (decide (iZ p s c x f))):=by
 have hle:=aO h.big
 have hc:=br h.wide
 refine ab.intro ac ae Tryz.func248 rfl (by decide) ?_;(conv=>whnf)
 refine ak rfl ?_
 conv=>whnf
 refine ak rfl ?_
 conv=>whnf
 refine ak rfl ?_
 conv=>whnf
 refine ak rfl ?_
 conv=>whnf
 repeat' ((first|refine nI ?_|refine aI ?_|refine tI ?_|refine fI ?_|fail);conv=>whnf)
 refine dC (fk _ _ _) (fun _=>?_) (fun _=>?_)<;>(conv=>whnf)
 case refine_2=>rename_i hh;exact⟨al (fun hn=>hh (by have:=hn.1;omega)),rfl⟩
 rename_i h1
 repeat' ((first|refine nI ?_|refine aI ?_|refine tI ?_|refine fI ?_|fail);conv=>whnf)
 refine dC (fk _ _ _) (fun _=>?_) (fun _=>?_)<;>(conv=>whnf)
 case refine_2=>rename_i hh;exact⟨al (fun hn=>hh (by have:=hn.1;omega)),rfl⟩
 rename_i h3
 have yes:G1 p s c (p.rules.getD x.rule.toNat aq) x f->iZ p s c x f:=fun hh=>⟨by omega,hh⟩
 have no:¬G1 p s c (p.rules.getD x.rule.toNat aq) x f->¬iZ p s c x f:=fun hn hh=>hn hh.2
 have hR:=cG h.val (i:=x.rule.toNat) (by omega)
 have hB:=cQ h.big (j:=x.rule.toNat) (by omega)
 have hbr:=dh hB
 refine dP ?_
 conv=>whnf
 refine nI ?_
 generalize p.rules.getD x.rule.toNat aq=r at yes no hR hB hbr
 have hrd:=hR.read
 have hfit:=hR.fit
 unfold dV at hfit
 conv=>whnf
 refine dI ?_
 conv=>whnf
 refine nI ?_
 conv=>whnf
 refine ag ?_ ?_<;>(intro h5;conv=>whnf)
 ·exact⟨al (no (fun hh=>h5 hh.1)),rfl⟩
 have h5':c.states.getD x.process.toNat 0=r.src:=by
  by_cases e:c.states.getD x.process.toNat 0=r.src
  ·exact e
  ·exact absurd e h5
 by_cases h6:r.read=-1\/c.value=r.read
 case neg=>
  repeat' ((first|refine nI ?_|refine aI ?_|refine tI ?_|refine fI ?_|fail);conv=>whnf)
  exact⟨al (no (fun hh=>h6 hh.2.1)),rfl⟩
 have yes2:pz p s c r x f->iZ p s c x f:=fun hh=>yes ⟨h5',h6,hh⟩
 have no2:¬pz p s c r x f->¬iZ p s c x f:=fun hn=>no (fun hh=>hn hh.2.2)
 have hkb:pz p s c r x f=(if r.kind=2\/r.kind=5 then Af c r x/\(r.kind=2\/rC p c r x.process.toNat x.partner)
  else x.partner=-1/\(if r.kind=1 then rq p s c r f/\u6 c r x.process else if r.kind=3 then True else E8 p c r x.process.toNat)):=rfl
 rw[hkb] at yes2 no2
 have hlt:=Ef (t:=p.topology) (l:=c.shape) (n:=c.states.length) (i:=x.process.toNat) (by omega)
 have hlp:=Ei (t:=p.topology) (l:=c.shape) (n:=c.states.length) (i:=x.process.toNat) (by omega)
 have hN:ab Tryz.prog 280 [.int .i64 p.topology, .sl 0 ao c.shape, .int .i64 (c.states.length:Int), .int .i64 x.process] (fun u=>u= .tup [.int .i64 (om p.topology c.shape c.states.length x.process.toNat), .int .i64 (oo p.topology c.shape c.states.length x.process.toNat), .int .i64 (pu p.topology c.shape c.states.length x.process.toNat)]):=by
  have hN:=u5 p.topology c.shape c.states.length x.process.toNat (by omega) (by omega) (by omega)
  rw[z9 (by omega),kG (by omega)] at hN
  exact hN
 have eF:nF p c x.process.toNat=om p.topology c.shape c.states.length x.process.toNat:=rfl
 have eS:nS p c x.process.toNat=oo p.topology c.shape c.states.length x.process.toNat:=rfl
 have eP:nP p c x.process.toNat=pu p.topology c.shape c.states.length x.process.toNat:=rfl
 have hcase:(r.read=-1)\/(r.read≠-1/\c.value=r.read):=by omega
 rcases hcase with h7|⟨h7,h8⟩
 all_goals
  repeat' ((first|refine nI ?_|refine aI ?_|refine tI ?_|refine fI ?_|fail);conv=>whnf)
  (refine oP (hN) ?_;conv=>whnf)
  by_cases k25:r.kind=2\/r.kind=5
  ·rw[if_pos k25] at yes2 no2
   have hpas:rC p c r x.process.toNat x.partner=(if r.direction=1 then nS p c x.process.toNat=x.partner else if r.direction=2 then nF p c x.process.toNat=x.partner else if r.direction=3 then(nF p c x.process.toNat=x.partner\/nS p c x.process.toNat=x.partner) else nP p c x.process.toNat=x.partner):=rfl
   by_cases k2:r.kind=2
   all_goals
    repeat' ((first|refine nI ?_|refine aI ?_|refine tI ?_|refine fI ?_|fail);conv=>whnf)
    refine dI ?_
    conv=>whnf
    repeat' ((first|refine nI ?_|refine aI ?_|refine tI ?_|refine fI ?_|fail);conv=>whnf)
    refine dD (fk _ _ _) (fun _=>?_) (fun _=>?_)<;>(conv=>whnf)
    case refine_2=>rename_i hh;exact⟨al (no2 (fun hn=>hh (by have:=hn.1.1;have:=hn.1.2.1;omega))),rfl⟩
    rename_i g1
    refine ag ?_ ?_<;>(intro g3;conv=>whnf)
    ·exact⟨al (no2 (fun hn=>hn.1.2.2.1 g3)),rfl⟩
    refine nI ?_
    conv=>whnf
    refine ag ?_ ?_<;>(intro g4;conv=>whnf)
    ·exact⟨al (no2 (fun hn=>g4 hn.1.2.2.2)),rfl⟩
    have hpr:Af c r x:=⟨by omega,by omega,g3,by
     by_cases e:c.states.getD x.partner.toNat 0=r.pfrom
     ·exact e
     ·exact absurd e g4⟩
    repeat' ((first|refine nI ?_|refine aI ?_|refine tI ?_|refine fI ?_|fail);conv=>whnf)
   case pos=>exact⟨av (yes2 ⟨hpr, .inl k2⟩),rfl⟩
   have yes3:rC p c r x.process.toNat x.partner->iZ p s c x f:=fun hh=>yes2 ⟨hpr, .inr hh⟩
   have no3:¬rC p c r x.process.toNat x.partner->¬iZ p s c x f:=fun hn=>no2 (fun hh=>hh.2.elim k2 hn)
   rw[hpas] at yes3 no3
   refine ag ?_ ?_<;>(intro d1;conv=>whnf)
   ·rw[if_pos d1] at yes3 no3
    refine ag ?_ ?_<;>(intro d2;conv=>whnf)
    ·exact⟨av (yes3 (by omega)),rfl⟩
    ·exact⟨al (no3 (by omega)),rfl⟩
   rw[if_neg d1] at yes3 no3
   refine ag ?_ ?_<;>(intro d2;conv=>whnf)
   ·rw[if_pos d2] at yes3 no3
    refine ag ?_ ?_<;>(intro d3;conv=>whnf)
    ·exact⟨av (yes3 (by omega)),rfl⟩
    ·exact⟨al (no3 (by omega)),rfl⟩
   rw[if_neg d2] at yes3 no3
   refine ag ?_ ?_<;>(intro d3;conv=>whnf)
   ·rw[if_pos d3] at yes3 no3
    refine ag ?_ ?_<;>(intro d4;conv=>whnf)
    ·exact⟨av (yes3 (by omega)),rfl⟩
    refine ag ?_ ?_<;>(intro d5;conv=>whnf)
    ·exact⟨av (yes3 (by omega)),rfl⟩
    ·exact⟨al (no3 (by omega)),rfl⟩
   ·rw[if_neg d3] at yes3 no3
    refine ag ?_ ?_<;>(intro d4;conv=>whnf)
    ·exact⟨av (yes3 (by omega)),rfl⟩
    ·exact⟨al (no3 (by omega)),rfl⟩
  rw[if_neg k25] at yes2 no2
  by_cases hpa:x.partner=-1
  case neg=>
   repeat' ((first|refine nI ?_|refine aI ?_|refine tI ?_|refine fI ?_|fail);conv=>whnf)
   exact⟨al (no2 (fun hh=>hpa hh.1)),rfl⟩
  by_cases k1:r.kind=1
  ·rw[if_pos k1] at yes2 no2
   repeat' ((first|refine nI ?_|refine aI ?_|refine tI ?_|refine fI ?_|fail);conv=>whnf)
   refine dC (FR p s c r x.process f h hB (hR.guards k1)) (fun _=>?_) (fun _=>?_)<;>(conv=>whnf)
   ·rename_i h10;exact⟨av (yes2 ⟨hpa,h10⟩),rfl⟩
   ·rename_i h10;exact⟨al (no2 (fun hh=>h10 hh.2)),rfl⟩
  rw[if_neg k1] at yes2 no2
  by_cases k3:r.kind=3
  ·rw[if_pos k3] at yes2 no2
   repeat' ((first|refine nI ?_|refine aI ?_|refine tI ?_|refine fI ?_|fail);conv=>whnf)
   exact⟨av (yes2 ⟨hpa,trivial⟩),rfl⟩
  rw[if_neg k3] at yes2 no2
  have k4:r.kind=4:=by omega
  by_cases a1:r.at_=1/\x.process≠0
  ·repeat' ((first|refine nI ?_|refine aI ?_|refine tI ?_|refine fI ?_|fail);conv=>whnf)
   exact⟨al (no2 (fun hh=>a1.2 (by have:=hh.2.1.1 a1.1;omega))),rfl⟩
  by_cases a2:r.at_=2/\((p.topology=2/\nS p c x.process.toNat≠-1)\/(p.topology=4/\nF p c x.process.toNat≠-1))
  ·have hno:¬iZ p s c x f:=no2 (fun hh=>by
    have:=hh.2.1.2 a2.1
    rcases a2.2 with a3|a3
    ·exact a3.2 (this.1 a3.1)
    ·exact a3.2 (this.2 a3.1))
   repeat' ((first|refine nI ?_|refine aI ?_|refine uI ?_|refine vI ?_|refine dI ?_|refine dR ?_|refine dP ?_|refine ak rfl ?_|refine pI _ rfl ?_|refine ap _ rfl ?_|refine tI ?_|refine fI ?_|refine ag (fun _=>?_) (fun _=>?_))<;>conv=>whnf)
   all_goals exact⟨al hno,rfl⟩
  have hpos:xO p c r x.process.toNat:=⟨fun e=>by omega,fun e=>⟨fun e2=>by omega,fun e2=>by omega⟩⟩
  repeat' ((first|refine nI ?_|refine aI ?_|refine uI ?_|refine vI ?_|refine dI ?_|refine dR ?_|refine dP ?_|refine ak rfl ?_|refine pI _ rfl ?_|refine ap _ rfl ?_|refine tI ?_|refine fI ?_|refine ag (fun _=>?_) (fun _=>?_))<;>conv=>whnf)
  all_goals first
   |(exfalso;omega)
   |skip
  all_goals
   refine dC (oE c r.left _ (by omega) (by omega) h.wide) (fun _=>?_) (fun _=>?_)<;>(conv=>whnf)
   case refine_2=>rename_i h10;exact⟨al (no2 (fun hh=>h10 hh.2.2.1)),rfl⟩
   rename_i h10
   refine dC (oE c r.right _ (by omega) (by omega) h.wide) (fun _=>?_) (fun _=>?_)<;>(conv=>whnf)
   case refine_2=>rename_i h11;exact⟨al (no2 (fun hh=>h11 hh.2.2.2.1)),rfl⟩
   rename_i h11
   refine dC (oE c r.parent _ (by omega) (by omega) h.wide) (fun _=>?_) (fun _=>?_)<;>(conv=>whnf)
   ·rename_i h12;exact⟨av (yes2 ⟨hpa,hpos,h10,h11,h12⟩),rfl⟩
   ·rename_i h12;exact⟨al (no2 (fun hh=>h12 hh.2.2.2.2)),rfl⟩
def nk (p:an) (s:aC) (c:ay) (r i:Int):Prop:=i<c.correct/\∃k:Nat,k<=c.states.length/\iZ p s c ⟨r,i,(k:Int)-1⟩ true
noncomputable instance decFc (p:an) (s:aC) (c:ay) (r i:Int):Decidable (nk p s c r i):=Classical.propDecidable _
theorem wP (p:an) (s:aC) (c:ay) (r i:Int) (h:dk p s c):ab Tryz.prog 153 [.agg (mV p s c), .int .i64 r, .int .i64 i] (fun u=>u= .bool (decide (nk p s c r i))):=by
 have hc:=br h.wide
 refine ab.intro ac ae Tryz.func153 rfl (by decide) ?_;(conv=>whnf)
 refine ak rfl ?_
 conv=>whnf
 refine ag ?_ ?_<;>(intro h1;conv=>whnf)
 ·exact⟨al (fun hh=>by obtain⟨_,k,_,he⟩:=hh;have:=he.1.2.1;dsimp only at this;omega),rfl⟩
 refine ag ?_ ?_<;>(intro h2;conv=>whnf)
 ·exact⟨al (fun hh=>by have:=hh.1;omega),rfl⟩
 refine aF.loopF ac ae (fun k:Nat=>k<=c.states.length+1/\∀j:Nat,j<k->¬iZ p s c ⟨r,i,(j:Int)-1⟩ true) (fun k=>[(7, .int .i64 ((k:Int)-1))]) (fun _=>[]) (fun k=>c.states.length+1-k) 0 ⟨by omega,fun j hj=>by omega⟩ ?_;conv=>whnf
 refine⟨sI,?_⟩
 rintro k ⟨hk,ha⟩
 conv=>whnf
 refine ag ?_ ?_<;>(intro h3;conv=>whnf)
 ·refine dC (o8 p s c ⟨r,i,(k:Int)-1⟩ true h) (fun _=>?_) (fun _=>?_)<;>(conv=>whnf)
  ·rename_i h4
   exact⟨av ⟨by omega,k,by omega,h4⟩,rfl⟩
  ·rename_i h4
   repeat' ((first|refine nI ?_|refine aI ?_|refine tI ?_|refine fI ?_|fail);conv=>whnf)
   refine⟨k+1,sI,⟨by omega,fun j hj=>?_⟩,by dsimp only;omega⟩
   by_cases e:j=k
   ·subst e;exact h4
   ·exact ha j (by omega)
 ·exact⟨al (fun⟨_,j,hj,he⟩=>ha j (by omega) he),rfl⟩
theorem ye (p:an) (s:aC) (c:ay) (r i:Int) (h:dk p s c):ab Tryz.prog 170 [.agg (aB p), .agg (bv s), .agg (bd c), .int .i64 r, .int .i64 i] (fun u=>u= .bool (decide (nk p s c r i))):=by
 have hc:=br h.wide
 refine ab.intro ac ae Tryz.func170 rfl (by decide) ?_;(conv=>whnf)
 refine ak rfl ?_
 conv=>whnf
 refine ak rfl ?_
 conv=>whnf
 refine ak rfl ?_
 conv=>whnf
 refine ag ?_ ?_<;>(intro h2;conv=>whnf)
 ·exact⟨al (fun hh=>by have:=hh.1;omega),rfl⟩
 refine aF.loopF ac ae (fun k:Nat=>k<=c.states.length+1/\∀j:Nat,j<k->¬iZ p s c ⟨r,i,(j:Int)-1⟩ true) (fun k=>[(11, .int .i64 ((k:Int)-1))]) (fun _=>[]) (fun k=>c.states.length+1-k) 0 ⟨by omega,fun j hj=>by omega⟩ ?_;conv=>whnf
 refine⟨sI,?_⟩
 rintro k ⟨hk,ha⟩
 conv=>whnf
 refine ag ?_ ?_<;>(intro h3;conv=>whnf)
 ·refine dC (lO p s c ⟨r,i,(k:Int)-1⟩ true h) (fun _=>?_) (fun _=>?_)<;>(conv=>whnf)
  ·rename_i h4
   exact⟨av ⟨by omega,k,by omega,h4⟩,rfl⟩
  ·rename_i h4
   repeat' ((first|refine nI ?_|refine aI ?_|refine tI ?_|refine fI ?_|fail);conv=>whnf)
   refine⟨k+1,sI,⟨by omega,fun j hj=>?_⟩,by dsimp only;omega⟩
   by_cases e:j=k
   ·subst e;exact h4
   ·exact ha j (by omega)
 ·exact⟨al (fun⟨_,j,hj,he⟩=>ha j (by omega) he),rfl⟩
noncomputable def yf (p:an) (s:aC) (c:ay) (q:Prop):AV:=if bW p s c≠0 then .tup [.bool false, .int .i64 (bW p s c)] else .tup [.bool (@decide q (Classical.propDecidable _)), .int .i64 0]
theorem wQ {q:Prop} {i j:Decidable q}:AV.tup [.bool (@decide q i), .int .i64 0]= .tup [.bool (@decide q j), .int .i64 0]:=by
 have:i=j:=Subsingleton.elim i j
 rw[this]
theorem Du (p:an) (s:aC) (c:ay) (r i:Int) (hp:¬cp p) (hw:bh c=false):ab Tryz.prog 69 [.agg (aB p), .agg (bv s), .agg (bd c), .int .i64 r, .int .i64 i] (fun u=>u=yf p s c (nk p s c r i)):=by
 have he:=yf.eq_1 p s c (nk p s c r i)
 refine ab.intro ac ae Tryz.func69 rfl (by decide) ?_;(conv=>whnf)
 refine ak rfl ?_
 conv=>whnf
 refine ak rfl ?_
 conv=>whnf
 refine ak rfl ?_
 conv=>whnf
 (refine oP (rl p s c hp hw) ?_;conv=>whnf)
 refine ag ?_ ?_<;>(intro h1;conv=>whnf)
 ·rw[if_pos h1] at he;exact⟨he.symm,rfl⟩
 rw[if_neg h1] at he
 have h:=dk.of (s:=s) hp hw (by omega)
 (refine oP (CO p s c hw) ?_;conv=>whnf)
 (refine oP (wP p s c r i h) ?_;conv=>whnf)
 exact⟨wQ.trans he.symm,rfl⟩
theorem Dv (p:an) (s:aC) (c:ay) (r i:Int) (hp:¬cp p) (hw:bh c=false):ab Tryz.prog 78 [.agg (aB p), .agg (bv s), .agg (bd c), .int .i64 r, .int .i64 i] (fun u=>u=yf p s c (nk p s c r i)):=by
 have he:=yf.eq_1 p s c (nk p s c r i)
 refine ab.intro ac ae Tryz.func78 rfl (by decide) ?_;(conv=>whnf)
 refine ak rfl ?_
 conv=>whnf
 refine ak rfl ?_
 conv=>whnf
 refine ak rfl ?_
 conv=>whnf
 (refine oP (fS p s c hp hw) ?_;conv=>whnf)
 refine ag ?_ ?_<;>(intro h1;conv=>whnf)
 ·rw[if_pos h1] at he;exact⟨he.symm,rfl⟩
 rw[if_neg h1] at he
 have h:=dk.of (s:=s) hp hw (by omega)
 (refine oP (ye p s c r i h) ?_;conv=>whnf)
 exact⟨wQ.trans he.symm,rfl⟩
def yg (a b d e:Nat) (c:ay):AV:=.agg [.row a c.shape.length 1, .row b c.states.length 1, .int .i64 c.correct, .row d c.sent.length 1, .row e c.faulty.length 1, .int .i64 c.value]
def mX (c:ay):AV:=yg 1001 1002 1003 1004 c
def o9 (c:ay):List (Nat×bP):=[(1001,bm c.shape),(1002,bm c.states),(1003,bm c.sent),(1004,bm c.faulty)]
def vE (a b d e:Nat):cR:=[(1001, .old a),(1002, .old b),(1003, .old d),(1004, .old e)]
def FS (a b d e:Nat) (c:ay) (M:aj):Prop:=M a=some (bm c.shape)/\M b=some (bm c.states)/\M d=some (bm c.sent)/\M e=some (bm c.faulty)
def Im (a b d e:Nat) (c:ay):AV->aj->Prop:=fun u M=>u=yg a b d e c/\FS a b d e c M
def IJ (a b d e:Nat) (c:ay) (n:Int):AV->aj->Prop:=fun u M=>u= .tup [yg a b d e c, .int .i64 n]/\FS a b d e c M
theorem Hs {a b d e:Nat} {c:ay} {M:aj} (h:FS a b d e c M):dc (vE a b d e) 400 M (o9 c):=by
 obtain⟨h1,h2,h3,h4⟩:=h
 refine⟨?_,?_,?_,?_,trivial⟩
 ·show mb _ 400 (M a) _;rw[h1];rfl
 ·show mb _ 400 (M b) _;rw[h2];rfl
 ·show mb _ 400 (M d) _;rw[h3];rfl
 ·show mb _ 400 (M e) _;rw[h4];rfl
theorem yh {a b d e:Nat} {c:ay}:∀u M',Im a b d e c u M'->dc (vE a b d e) 400 M' (o9 c)/\jn (vE a b d e) 400 u (mX c):=by
 rintro _ M' ⟨rfl,h⟩
 exact⟨Hs h,by simp[jn,hZ,vE,aG,yg,mX]⟩
theorem Ht {a b d e:Nat} {c:ay} {m:Int}:∀u M',IJ a b d e c m u M'->dc (vE a b d e) 400 M' (o9 c)/\jn (vE a b d e) 400 u (.tup [mX c, .int .i64 m]):=by
 rintro _ M' ⟨rfl,h⟩
 exact⟨Hs h,by simp[jn,hZ,vE,aG,yg,mX]⟩
theorem Dw {ℓ a:Nat} {l:List Int}:∀u M',(u= .row a l.length 1/\M' a=some (bm l))->dc [(ℓ, .old a)] 400 M' [(ℓ,bm l)]/\jn [(ℓ, .old a)] 400 u (.row ℓ l.length 1):=by
 rintro _ M' ⟨rfl,h⟩
 constructor
 ·simp[dc,aG,mb,h,bm]
 ·simp[jn,aG]
theorem rQ (c:ay) (hw:bh c=false):am Tryz.prog 162 [.agg (bd c)] (aj.ofL []) (Im 5 9 13 17 c):=by
 have hc:=br hw
 refine am.intro ac ae [] Tryz.func162 rfl (by decide) ?_
 conv=>whnf
 refine xd ?_
 conv=>whnf
 refine nI ?_
 conv=>whnf
 refine nI ?_
 conv=>whnf
 refine nI ?_
 conv=>whnf
 refine nI ?_
 conv=>whnf
 exact⟨rfl,rfl,rfl,rfl,rfl⟩
theorem j5 (l:List Int) (hl:l.length<=1000000):am Tryz.prog 272 [.sl 0 ao l] (aj.ofL []) (fun u M=>u= .row 5 l.length 1/\M 5=some (bm l)):=by
 refine am.intro ac ae [] Tryz.func272 rfl (by decide) ?_
 conv=>whnf
 refine bD 0 ao [] rfl ?_
 conv=>whnf
 refine bQ _ rfl (by simp only[List.length_nil];omega) ?_
 conv=>whnf
 exact⟨by show AV.row 5 (0+l.length) 1=_;rw[Nat.zero_add],rfl⟩
theorem Et (c:ay) (hw:bh c=false):am Tryz.prog 234 [.agg (bd c)] (aj.ofL []) (Im 1001 1002 1003 1004 c):=by
 have hc:=br hw
 refine am.intro ac ae [] Tryz.func234 rfl (by decide) ?_
 conv=>whnf
 refine ak rfl ?_
 conv=>whnf
 refine we (by decide+kernel) ?_
 conv=>whnf
 refine mm 400 [(1001, .old 5)] [(1001,bm c.shape)] (.row 1001 c.shape.length 1) (j5 c.shape (by omega)) (aa) rfl rfl Dw ?_
 conv=>whnf
 refine mm 400 [(1002, .old 5)] [(1002,bm c.states)] (.row 1002 c.states.length 1) (j5 c.states (by omega)) (aa) rfl rfl Dw ?_
 conv=>whnf
 refine mm 400 [(1003, .old 5)] [(1003,bm c.sent)] (.row 1003 c.sent.length 1) (j5 c.sent (by omega)) (aa) rfl rfl Dw ?_
 conv=>whnf
 refine mm 400 [(1004, .old 5)] [(1004,bm c.faulty)] (.row 1004 c.faulty.length 1) (j5 c.faulty (by omega)) (aa) rfl rfl Dw ?_
 conv=>whnf
 exact⟨rfl,rfl,rfl,rfl,rfl⟩
def Dx (c:ay) (r:bC) (x:cj) (j:Nat):Int:=if(j:Int)=x.process then r.dst else if(r.kind=2\/r.kind=5)/\(j:Int)=x.partner then r.pto else if r.kind=3 then r.response.getD (c.states.getD j 0).toNat 0 else c.states.getD j 0
def wR (c:ay) (r:bC) (x:cj):List Int:=(List.range c.states.length).map (Dx c r x)
def bR (l:List Int):List Int->List Int
 |[]=>l
 |m::ms=>bR (l.set m.toNat (l.getD m.toNat 0+1)) ms
theorem pb:∀(ms:List Int) (l:List Int) (m:Int),bR l (ms++[m])=(bR l ms).set m.toNat ((bR l ms).getD m.toNat 0+1)
 |[],_,_=>rfl
 |a::ms,l,m=>pb ms _ m
theorem gt {l ms:List Int} {k:Nat} (h:k<ms.length):bR l (ms.take (k+1))=(bR l (ms.take k)).set (ms.getD k 0).toNat ((bR l (ms.take k)).getD (ms.getD k 0).toNat 0+1):=by
 have e:ms.getD k 0=ms[k]:=by rw[gD,gL h];rfl
 rw[List.take_succ_eq_append_getElem h,<-e,pb]
theorem dp:∀(ms l:List Int),(bR l ms).length=l.length
 |[],_=>rfl
 |a::ms,l=>by rw[bR,dp ms];simp
theorem fV:∀(ms l:List Int) (b:Int),(∀j,0<=l.getD j 0/\l.getD j 0<=b)->∀j,0<=(bR l ms).getD j 0/\(bR l ms).getD j 0<=b+ms.length
 |[],l,b,h,j=>by have:=h j;simp only[bR,List.length_nil];omega
 |a::ms,l,b,h,j=>by
  have:=fV ms (l.set a.toNat (l.getD a.toNat 0+1)) (b+1) (fun i=>by
   have h1:=h i
   have h2:=h a.toNat
   rw[b8]
   split<;>omega) j
  rw[bR,List.length_cons]
  omega
theorem i5 {l:List Int} (h:iy l 1048577):∀j,0<=l.getD j 0/\l.getD j 0<=1048576:=fun j=>by
 by_cases hj:j<l.length
 ·have:=h j hj;omega
 ·rw[gD,List.getElem?_eq_none (by omega)]
  exact⟨by decide,by decide⟩
def Dy (l ms:List Int):Prop:=∀k,k<ms.length->(bR l (ms.take (k+1))).getD (ms.getD k 0).toNat 0<=1048576
def d9 (c:ay) (r:bC) (x:cj):ay:=⟨c.shape,wR c r x,c.correct,if x.process<c.correct then bR c.sent r.send else c.sent,if x.process<c.correct then c.faulty else bR c.faulty r.send,if r.write=-1 then c.value else r.write⟩
def kq (c:ay) (r:bC) (x:cj):Prop:=if x.process<c.correct then Dy c.sent r.send else Dy c.faulty r.send
noncomputable instance decAp (c:ay) (r:bC) (x:cj):Decidable (kq c r x):=Classical.propDecidable _
theorem j6 (c:ay) (r:bC) (x:cj):(wR c r x).length=c.states.length:=by simp[wR]
theorem t8 {c:ay} {r:bC} {x:cj} {l:List Int} (hl:l.length=c.states.length) (h:∀j,j<c.states.length->l.getD j 0=Dx c r x j):l=wR c r x:=lj hl h
theorem fP.send {p:an} {r:bC} (h:fP p r):iy r.send p.messages.length:=by
 by_cases k1:r.kind=1
 ·have:=h.kin
  unfold cu at this
  rw[if_pos k1] at this
  exact(CN (bG this (bw r.send p.messages.length) (by simp))).1
 ·have hs:=h.sur
  unfold gu at hs
  intro j hj
  omega
theorem fP.resp {p:an} {r:bC} (h:fP p r) (hk:r.kind=3):r.response.length=p.states.length/\iy r.response p.states.length:=by
 have:=h.kin
 unfold cu at this
 rw[if_neg (by omega),if_neg (by omega),if_pos hk] at this
 have:=bG this (gQ r.response p.states.length) (by simp)
 unfold gQ at this
 by_cases h1:(r.response.length:Int)≠p.states.length
 ·rw[if_pos h1] at this;omega
 ·rw[if_neg h1] at this
  by_cases h2:iy r.response p.states.length
  ·exact⟨by omega,h2⟩
  ·rw[if_neg h2] at this;omega
theorem rR {p:an} (h:aw p=0):0<=p.fault/\p.fault<=3:=by
 unfold aw at h
 by_cases h1:¬bU p.name
 ·rw[if_pos h1] at h;omega
 rw[if_neg h1] at h
 by_cases h2:p.topology<1\/4<p.topology\/p.fault<0\/3<p.fault
 ·rw[if_pos h2] at h;omega
 ·omega
def pC (l:List ay) (e:Int):AV:=.tup [.sl aX bd l, .int .i64 e]
def FT (l:List ay):bP:=.row 61 aX bd l
def I1 (v:AV):AV->Prop:=fun u=>u=v\/∃e,u= .tup [.nilsl, .int .i64 e]/\v=pC [] e
theorem ab.rp {f:FuncId} {args:List AV} {v:AV} (hf:∃l e,v=pC l e) (h:ab Tryz.prog f args (I1 v)):ab Tryz.prog f args (fun u=>u=v):=by
 obtain⟨l,e,rfl⟩:=hf
 refine ab.sub h ?_
 rintro u (rfl|⟨e',rfl,h2⟩)
 ·exact⟨_,rfl,aa,rfl⟩
 ·rw[h2];exact⟨_,rfl,aa,rfl⟩
end Go.Proofs.YtekmminpfhacpaaGreatDoor
