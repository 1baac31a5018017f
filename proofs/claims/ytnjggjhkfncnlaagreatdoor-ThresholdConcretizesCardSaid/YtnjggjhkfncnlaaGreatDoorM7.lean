import Derived.Test.YtnjggjhkfncnlaaGreatDoorM6
set_option linter.unusedVariables false
set_option linter.unusedSimpArgs false
namespace Go.Proofs.YtnjggjhkfncnlaaGreatDoor
set_option maxRecDepth 100000
set_option maxHeartbeats 16000000
theorem lW {i:Int} (h:0<=i):((i.toNat:Nat):Int)=i:=by omega
theorem qo (p:au) (s:bA) (c:aR) (x:dH) (f:Bool) (h:gu p s c):ab Tryz.prog 123 [.agg (pU p s c), .agg (de x), .bool f] (fun u=>u= .bool (decide (j6 p s c x f))):=by
 have hle:=b7 h.big
 have hc:=b8 h.wide
 have f1:((List.range c.states.length).map (pJ p.topology c.shape c.states.length)).length=c.states.length:=by simp
 have f2:((List.range c.states.length).map (pK p.topology c.shape c.states.length)).length=c.states.length:=by simp
 have f3:((List.range c.states.length).map (qK p.topology c.shape c.states.length)).length=c.states.length:=by simp
 refine ab.intro ac ag Tryz.func123 rfl (by decide) ?_;(conv=>whnf)
 refine al rfl ?_
 conv=>whnf
 refine al rfl ?_
 conv=>whnf
 refine ah ?_ ?_<;>(intro h1;conv=>whnf)
 ·exact⟨aq (fun hh=>by have:=hh.1;omega),rfl⟩
 refine ah ?_ ?_<;>(intro h2;conv=>whnf)
 ·exact⟨aq (fun hh=>by have:=hh.1;omega),rfl⟩
 refine ah ?_ ?_<;>(intro h3;conv=>whnf)
 ·exact⟨aq (fun hh=>by have:=hh.1;omega),rfl⟩
 refine ah ?_ ?_<;>(intro h4;conv=>whnf)
 ·exact⟨aq (fun hh=>by have:=hh.1;omega),rfl⟩
 have yes:I8 p s c (p.rules.getD x.rule.toNat ar) x f->j6 p s c x f:=fun hh=>⟨by omega,hh⟩
 have no:¬I8 p s c (p.rules.getD x.rule.toNat ar) x f->¬j6 p s c x f:=fun hn hh=>hn hh.2
 have hR:=dG h.val (i:=x.rule.toNat) (by omega)
 have hB:=fm h.big (j:=x.rule.toNat) (by omega)
 have hbr:=fE hB
 refine nI ?_
 generalize p.rules.getD x.rule.toNat ar=r at yes no hR hB hbr
 have hrd:=hR.read
 have hfit:=hR.fit
 unfold fe at hfit
 conv=>whnf
 refine dI ?_
 conv=>whnf
 refine nI ?_
 conv=>whnf
 refine ah ?_ ?_<;>(intro h5;conv=>whnf)
 ·exact⟨aq (no (fun hh=>h5 hh.1)),rfl⟩
 have h5':c.states.getD x.process.toNat 0=r.src:=by
  by_cases e:c.states.getD x.process.toNat 0=r.src
  ·exact e
  ·exact absurd e h5
 by_cases h6:r.read=-1\/c.value=r.read
 case neg=>
  repeat' ((first|refine nI ?_|refine aI ?_|refine tI ?_|refine fI ?_|fail);conv=>whnf)
  exact⟨aq (no (fun hh=>h6 hh.2.1)),rfl⟩
 have yes2:wX p s c r x f->j6 p s c x f:=fun hh=>yes ⟨h5',h6,hh⟩
 have no2:¬wX p s c r x f->¬j6 p s c x f:=fun hn=>no (fun hh=>hn hh.2.2)
 have hkb:wX p s c r x f=(if r.kind=2\/r.kind=5 then BU c r x/\(r.kind=2\/s9 p c r x.process.toNat x.partner)
  else x.partner=-1/\(if r.kind=1 then s4 p s c r f/\wV c r x.process else if r.kind=3 then True else G4 p c r x.process.toNat)):=rfl
 rw[hkb] at yes2 no2
 have hcase:(r.read=-1)\/(0<=r.read/\c.value=r.read):=by omega
 rcases hcase with h7|⟨h7,h8⟩
 all_goals
  repeat' ((first|refine nI ?_|refine aI ?_|refine tI ?_|refine fI ?_|fail);conv=>whnf)
  by_cases k25:r.kind=2\/r.kind=5
  ·rw[if_pos k25] at yes2 no2
   by_cases hpr:BU c r x
   case neg=>
    have hpr':¬(0<=x.partner/\x.partner<c.states.length/\x.partner≠x.process/\c.states.getD x.partner.toNat 0=r.pfrom):=hpr
    rcases k25 with k2|k5
    all_goals
     repeat' ((first|refine nI ?_|refine aI ?_|refine tI ?_|refine fI ?_|fail);conv=>whnf)
     refine dI ?_
     conv=>whnf
     refine ah ?_ ?_<;>(intro g1;conv=>whnf)
     ·exact⟨aq (no2 (fun hh=>hpr hh.1)),rfl⟩
     refine ah ?_ ?_<;>(intro g2;conv=>whnf)
     ·exact⟨aq (no2 (fun hh=>hpr hh.1)),rfl⟩
     refine ah ?_ ?_<;>(intro g3;conv=>whnf)
     ·exact⟨aq (no2 (fun hh=>hpr hh.1)),rfl⟩
     refine nI ?_
     conv=>whnf
     refine tI ?_
     conv=>whnf
     exact⟨aq (no2 (fun hh=>hpr hh.1)),rfl⟩
   obtain⟨g1,g2,g3,g4⟩:=id hpr
   by_cases k2:r.kind=2
   ·repeat' ((first|refine nI ?_|refine aI ?_|refine tI ?_|refine fI ?_|fail);conv=>whnf)
    refine dI ?_
    conv=>whnf
    repeat' ((first|refine nI ?_|refine aI ?_|refine tI ?_|refine fI ?_|fail);conv=>whnf)
    exact⟨az (yes2 ⟨hpr, .inl k2⟩),rfl⟩
   ·repeat' ((first|refine nI ?_|refine aI ?_|refine tI ?_|refine fI ?_|fail);conv=>whnf)
    refine dI ?_
    conv=>whnf
    repeat' ((first|refine nI ?_|refine aI ?_|refine tI ?_|refine fI ?_|fail);conv=>whnf)
    have hp:=EU p s c r x.process.toNat x.partner (by omega)
    rw[lW (by omega)] at hp
    refine dC (hp) (fun _=>?_) (fun _=>?_)<;>(conv=>whnf)
    ·rename_i h9;exact⟨az (yes2 ⟨hpr, .inr h9⟩),rfl⟩
    ·rename_i h9;exact⟨aq (no2 (fun hh=>hh.2.elim k2 h9)),rfl⟩
  rw[if_neg k25] at yes2 no2
  by_cases hpa:x.partner=-1
  case neg=>
   repeat' ((first|refine nI ?_|refine aI ?_|refine tI ?_|refine fI ?_|fail);conv=>whnf)
   exact⟨aq (no2 (fun hh=>hpa hh.1)),rfl⟩
  by_cases k1:r.kind=1
  ·rw[if_pos k1] at yes2 no2
   repeat' ((first|refine nI ?_|refine aI ?_|refine tI ?_|refine fI ?_|fail);conv=>whnf)
   refine dC (ER p s c r f h hB (hR.guards k1)) (fun _=>?_) (fun _=>?_)<;>(conv=>whnf)
   case refine_2=>rename_i h9;exact⟨aq (no2 (fun hh=>h9 hh.2.1)),rfl⟩
   rename_i h9
   refine dC (ET p s c r x.process h.wide hB) (fun _=>?_) (fun _=>?_)<;>(conv=>whnf)
   ·rename_i h10;exact⟨az (yes2 ⟨hpa,h9,h10⟩),rfl⟩
   ·rename_i h10;exact⟨aq (no2 (fun hh=>h10 hh.2.2)),rfl⟩
  rw[if_neg k1] at yes2 no2
  by_cases k3:r.kind=3
  ·rw[if_pos k3] at yes2 no2
   repeat' ((first|refine nI ?_|refine aI ?_|refine tI ?_|refine fI ?_|fail);conv=>whnf)
   exact⟨az (yes2 ⟨hpa,trivial⟩),rfl⟩
  rw[if_neg k3] at yes2 no2
  have k4:r.kind=4:=by omega
  have hlt:=F7 (t:=p.topology) (l:=c.shape) (n:=c.states.length) (i:=x.process.toNat) (by omega)
  have hlp:=F' (t:=p.topology) (l:=c.shape) (n:=c.states.length) (i:=x.process.toNat) (by omega)
  repeat' ((first|refine nI ?_|refine aI ?_|refine tI ?_|refine fI ?_|fail);conv=>whnf)
  refine dI ?_
  conv=>whnf
  have hpo:=zG p s c r x.process.toNat h hR k4 (by omega)
  rw[lW (by omega)] at hpo
  refine dD (hpo) (fun _=>?_) (fun _=>?_)<;>(conv=>whnf)
  case refine_2=>rename_i h9;exact⟨aq (no2 (fun hh=>h9 hh.2.1)),rfl⟩
  rename_i h9
  refine nI ?_
  rw[aX _ _ _ (by omega)]
  conv=>whnf
  refine dD (BT p s c r.left _ (by omega) (by omega) h.wide) (fun _=>?_) (fun _=>?_)<;>(conv=>whnf)
  case refine_2=>rename_i h10;exact⟨aq (no2 (fun hh=>h10 hh.2.2.1)),rfl⟩
  rename_i h10
  refine nI ?_
  rw[aX _ _ _ (by omega)]
  conv=>whnf
  refine dD (BT p s c r.right _ (by omega) (by omega) h.wide) (fun _=>?_) (fun _=>?_)<;>(conv=>whnf)
  case refine_2=>rename_i h11;exact⟨aq (no2 (fun hh=>h11 hh.2.2.2.1)),rfl⟩
  rename_i h11
  refine nI ?_
  rw[aX _ _ _ (by omega)]
  conv=>whnf
  refine dD (BT p s c r.parent _ (by omega) (by omega) h.wide) (fun _=>?_) (fun _=>?_)<;>(conv=>whnf)
  ·rename_i h12;exact⟨az (yes2 ⟨hpa,h9,h10,h11,h12⟩),rfl⟩
  ·rename_i h12;exact⟨aq (no2 (fun hh=>h12 hh.2.2.2.2)),rfl⟩
theorem HR (p:au) (s:bA) (c:aR) (r:bp) (i:Int) (f:Bool) (h:gu p s c) (hr:¬my r) (hg:aG p.messages.length r.guards=0):ab Tryz.prog 220 [.agg (aO p), .agg (cj s), .agg (aW c), .agg (dF r), .int .i64 i, .bool f] (fun u=>u= .bool (decide (s4 p s c r f/\wV c r i))):=by
 have hle:=b7 h.big
 have hbr:=fE hr
 have hc:=b8 h.wide
 have hgs:=pW hg
 have hsn:=h.vc.snl
 have hfa:=h.vc.fal
 have hz:=h.siz
 unfold Ah at hz
 refine ab.intro ac ag Tryz.func220 rfl (by decide) ?_;(conv=>whnf)
 refine al rfl ?_
 conv=>whnf
 refine al rfl ?_
 conv=>whnf
 refine al rfl ?_
 conv=>whnf
 refine al rfl ?_
 conv=>whnf
 refine aH.loopF ac ag (fun k:Nat=>k<=r.guards.length/\∀j,j<k->ny p s c f (r.guards.getD j aE)) (fun k=>[(13, .int .i64 (k:Int))]) (fun _=>[]) (fun k=>r.guards.length-k) 0 ⟨by omega,fun j hj=>by omega⟩ ?_;conv=>whnf
 refine⟨sI,?_⟩
 rintro k ⟨hk,ha⟩
 conv=>whnf
 refine ah ?_ ?_<;>(intro h1;conv=>whnf)
 ·obtain⟨g1,g2,g3⟩:=hgs k (by omega)
  have nok:¬ny p s c f (r.guards.getD k aE)->¬(s4 p s c r f/\wV c r i):=fun hn hb=>hn (hb.1 k (by omega))
  have next:ny p s c f (r.guards.getD k aE)->∀j,j<k+1->ny p s c f (r.guards.getD j aE):=fun hn j hj=>by
   by_cases e:j=k
   ·subst e;exact hn
   ·exact ha j (by omega)
  refine nI ?_
  rw[tN]
  generalize r.guards.getD k aE=g at g1 g2 g3 nok next
  have hb:=BP (p:=p) (s:=s) (c:=c) (m:=g.message) f h.sent.1 h.sent.2 (by omega) (by omega)
  have hm:=F9 g2 hb
  conv=>whnf
  (refine oP (zD g.bound s g3 h.siz) ?_;conv=>whnf)
  refine dI ?_
  conv=>whnf
  (refine oC (G1 p s c g.message f h.sent.1 h.sent.2 (by omega) (by omega)) ?_;conv=>whnf)
  repeat' ((first|refine nI ?_|refine aI ?_|refine tI ?_|refine fI ?_|fail);conv=>whnf)
  refine ah ?_ ?_<;>(intro h2;conv=>whnf)
  ·exact⟨aq (nok (by unfold ny;omega)),rfl⟩
  ·repeat' ((first|refine nI ?_|refine aI ?_|refine tI ?_|refine fI ?_|fail);conv=>whnf)
   exact⟨k+1,sI,⟨by omega,next (by unfold ny;omega)⟩,by dsimp only;omega⟩
 have hgrd:s4 p s c r f:=fun j hj=>ha j (by omega)
 refine Iw ?_
 conv=>whnf
 refine aH.loopF ac ag (fun x:Nat×Bool=>x.1<=c.states.length/\(x.2=true↔BS c r.some_ i x.1)/\Ai c r.forall_ i x.1) (fun x=>[(18, .int .i64 (x.1:Int)),(17, .bool x.2)]) (fun _=>[]) (fun x=>c.states.length-x.1) (0,decide ((r.some_.length:Int)=0)) ⟨Nat.zero_le _,by rw[ve,decide_eq_true_iff];omega,vf⟩ ?_;conv=>whnf
 refine⟨sI,?_⟩
 rintro⟨k,e⟩ ⟨hk,he,hf⟩
 dsimp only at hk he hf⊢
 cases e
 ·conv=>whnf
  refine ah ?_ ?_<;>(intro h1;conv=>whnf)
  case refine_2=>exact⟨aq (fun hh=>oo he (by rw[show k=c.states.length by omega];exact hh.2.1)),rfl⟩
  refine ah ?_ ?_<;>(intro h2;conv=>whnf)
  ·repeat' ((first|refine nI ?_|refine aI ?_|refine tI ?_|refine fI ?_|fail);conv=>whnf)
   exact⟨(k+1,_),sI,⟨by dsimp only;omega,he.trans (pX h2).symm,(pY h2).2 hf⟩,by dsimp only;omega⟩
  refine dI ?_
  conv=>whnf
  refine nI ?_
  rw[tN]
  conv=>whnf
  refine dD (zy r.some_ _ (by omega)) (fun _=>?_) (fun _=>?_)<;>(conv=>whnf)
  ·rename_i hin
   have hE:=nz (s6 h2 hin)
   refine dI ?_
   conv=>whnf
   refine ah ?_ ?_<;>(intro h3;conv=>whnf)
   ·refine nI ?_
    rw[tN]
    conv=>whnf
    refine dD (zy r.forall_ _ (by omega)) (fun _=>?_) (fun _=>?_)<;>(conv=>whnf)
    ·rename_i h4
     repeat' ((first|refine nI ?_|refine aI ?_|refine tI ?_|refine fI ?_|fail);conv=>whnf)
     exact⟨(k+1,_),sI,⟨by dsimp only;omega,hE,oF hf h4⟩,by dsimp only;omega⟩
    ·rename_i h4
     exact⟨aq (fun hh=>hh.2.2.elim (by omega) (fun hq=>h4 (hq k (by omega) h2))),rfl⟩
   ·repeat' ((first|refine nI ?_|refine aI ?_|refine tI ?_|refine fI ?_|fail);conv=>whnf)
    exact⟨(k+1,_),sI,⟨by dsimp only;omega,hE,oE (by omega)⟩,by dsimp only;omega⟩
  ·rename_i hin
   have hE:=s7 (wW (oo he) hin)
   refine dI ?_
   conv=>whnf
   refine ah ?_ ?_<;>(intro h3;conv=>whnf)
   ·refine nI ?_
    rw[tN]
    conv=>whnf
    refine dD (zy r.forall_ _ (by omega)) (fun _=>?_) (fun _=>?_)<;>(conv=>whnf)
    ·rename_i h4
     repeat' ((first|refine nI ?_|refine aI ?_|refine tI ?_|refine fI ?_|fail);conv=>whnf)
     exact⟨(k+1,_),sI,⟨by dsimp only;omega,hE,oF hf h4⟩,by dsimp only;omega⟩
    ·rename_i h4
     exact⟨aq (fun hh=>hh.2.2.elim (by omega) (fun hq=>h4 (hq k (by omega) h2))),rfl⟩
   ·repeat' ((first|refine nI ?_|refine aI ?_|refine tI ?_|refine fI ?_|fail);conv=>whnf)
    exact⟨(k+1,_),sI,⟨by dsimp only;omega,hE,oE (by omega)⟩,by dsimp only;omega⟩
 ·conv=>whnf
  refine ah ?_ ?_<;>(intro h1;conv=>whnf)
  case refine_2=>exact⟨az ⟨hgrd,by have:=he.1 rfl;rwa [show k=c.states.length by omega] at this,by rwa [show k=c.states.length by omega] at hf⟩,rfl⟩
  refine ah ?_ ?_<;>(intro h2;conv=>whnf)
  ·repeat' ((first|refine nI ?_|refine aI ?_|refine tI ?_|refine fI ?_|fail);conv=>whnf)
   exact⟨(k+1,_),sI,⟨by dsimp only;omega,he.trans (pX h2).symm,(pY h2).2 hf⟩,by dsimp only;omega⟩
  refine dI ?_
  conv=>whnf
  ·have hE:=nz (s5 (i:=i) (he.1 rfl))
   refine dI ?_
   conv=>whnf
   refine ah ?_ ?_<;>(intro h3;conv=>whnf)
   ·refine nI ?_
    rw[tN]
    conv=>whnf
    refine dD (zy r.forall_ _ (by omega)) (fun _=>?_) (fun _=>?_)<;>(conv=>whnf)
    ·rename_i h4
     repeat' ((first|refine nI ?_|refine aI ?_|refine tI ?_|refine fI ?_|fail);conv=>whnf)
     exact⟨(k+1,_),sI,⟨by dsimp only;omega,hE,oF hf h4⟩,by dsimp only;omega⟩
    ·rename_i h4
     exact⟨aq (fun hh=>hh.2.2.elim (by omega) (fun hq=>h4 (hq k (by omega) h2))),rfl⟩
   ·repeat' ((first|refine nI ?_|refine aI ?_|refine tI ?_|refine fI ?_|fail);conv=>whnf)
    exact⟨(k+1,_),sI,⟨by dsimp only;omega,hE,oE (by omega)⟩,by dsimp only;omega⟩
theorem qp (p:au) (s:bA) (c:aR) (x:dH) (f:Bool) (h:gu p s c):ab Tryz.prog 190 [.agg (aO p), .agg (cj s), .agg (aW c), .agg (de x), .bool f] (fun u=>u= .bool (decide (j6 p s c x f))):=by
 have hle:=b7 h.big
 have hc:=b8 h.wide
 refine ab.intro ac ag Tryz.func190 rfl (by decide) ?_;(conv=>whnf)
 refine al rfl ?_
 conv=>whnf
 refine al rfl ?_
 conv=>whnf
 refine al rfl ?_
 conv=>whnf
 refine al rfl ?_
 conv=>whnf
 repeat' ((first|refine nI ?_|refine aI ?_|refine tI ?_|refine fI ?_|fail);conv=>whnf)
 refine dC (gf _ _ _) (fun _=>?_) (fun _=>?_)<;>(conv=>whnf)
 case refine_2=>rename_i hh;exact⟨aq (fun hn=>hh (by have:=hn.1;omega)),rfl⟩
 rename_i h1
 repeat' ((first|refine nI ?_|refine aI ?_|refine tI ?_|refine fI ?_|fail);conv=>whnf)
 refine dC (gf _ _ _) (fun _=>?_) (fun _=>?_)<;>(conv=>whnf)
 case refine_2=>rename_i hh;exact⟨aq (fun hn=>hh (by have:=hn.1;omega)),rfl⟩
 rename_i h3
 have yes:I8 p s c (p.rules.getD x.rule.toNat ar) x f->j6 p s c x f:=fun hh=>⟨by omega,hh⟩
 have no:¬I8 p s c (p.rules.getD x.rule.toNat ar) x f->¬j6 p s c x f:=fun hn hh=>hn hh.2
 have hR:=dG h.val (i:=x.rule.toNat) (by omega)
 have hB:=fm h.big (j:=x.rule.toNat) (by omega)
 have hbr:=fE hB
 refine dP ?_
 conv=>whnf
 refine nI ?_
 generalize p.rules.getD x.rule.toNat ar=r at yes no hR hB hbr
 have hrd:=hR.read
 have hfit:=hR.fit
 unfold fe at hfit
 conv=>whnf
 refine dI ?_
 conv=>whnf
 refine nI ?_
 conv=>whnf
 refine ah ?_ ?_<;>(intro h5;conv=>whnf)
 ·exact⟨aq (no (fun hh=>h5 hh.1)),rfl⟩
 have h5':c.states.getD x.process.toNat 0=r.src:=by
  by_cases e:c.states.getD x.process.toNat 0=r.src
  ·exact e
  ·exact absurd e h5
 by_cases h6:r.read=-1\/c.value=r.read
 case neg=>
  repeat' ((first|refine nI ?_|refine aI ?_|refine tI ?_|refine fI ?_|fail);conv=>whnf)
  exact⟨aq (no (fun hh=>h6 hh.2.1)),rfl⟩
 have yes2:wX p s c r x f->j6 p s c x f:=fun hh=>yes ⟨h5',h6,hh⟩
 have no2:¬wX p s c r x f->¬j6 p s c x f:=fun hn=>no (fun hh=>hn hh.2.2)
 have hkb:wX p s c r x f=(if r.kind=2\/r.kind=5 then BU c r x/\(r.kind=2\/s9 p c r x.process.toNat x.partner)
  else x.partner=-1/\(if r.kind=1 then s4 p s c r f/\wV c r x.process else if r.kind=3 then True else G4 p c r x.process.toNat)):=rfl
 rw[hkb] at yes2 no2
 have hlt:=F7 (t:=p.topology) (l:=c.shape) (n:=c.states.length) (i:=x.process.toNat) (by omega)
 have hlp:=F' (t:=p.topology) (l:=c.shape) (n:=c.states.length) (i:=x.process.toNat) (by omega)
 have hN:ab Tryz.prog 219 [.int .i64 p.topology, .sl 0 an c.shape, .int .i64 (c.states.length:Int), .int .i64 x.process] (fun u=>u= .tup [.int .i64 (pJ p.topology c.shape c.states.length x.process.toNat), .int .i64 (pK p.topology c.shape c.states.length x.process.toNat), .int .i64 (qK p.topology c.shape c.states.length x.process.toNat)]):=by
  have hN:=wU p.topology c.shape c.states.length x.process.toNat (by omega) (by omega) (by omega)
  rw[BO (by omega),lW (by omega)] at hN
  exact hN
 have eF:nF p c x.process.toNat=pJ p.topology c.shape c.states.length x.process.toNat:=rfl
 have eS:nS p c x.process.toNat=pK p.topology c.shape c.states.length x.process.toNat:=rfl
 have eP:nP p c x.process.toNat=qK p.topology c.shape c.states.length x.process.toNat:=rfl
 have hcase:(r.read=-1)\/(r.read≠-1/\c.value=r.read):=by omega
 rcases hcase with h7|⟨h7,h8⟩
 all_goals
  repeat' ((first|refine nI ?_|refine aI ?_|refine tI ?_|refine fI ?_|fail);conv=>whnf)
  (refine oP (hN) ?_;conv=>whnf)
  by_cases k25:r.kind=2\/r.kind=5
  ·rw[if_pos k25] at yes2 no2
   have hpas:s9 p c r x.process.toNat x.partner=(if r.direction=1 then nS p c x.process.toNat=x.partner else if r.direction=2 then nF p c x.process.toNat=x.partner else if r.direction=3 then(nF p c x.process.toNat=x.partner\/nS p c x.process.toNat=x.partner) else nP p c x.process.toNat=x.partner):=rfl
   by_cases k2:r.kind=2
   all_goals
    repeat' ((first|refine nI ?_|refine aI ?_|refine tI ?_|refine fI ?_|fail);conv=>whnf)
    refine dI ?_
    conv=>whnf
    repeat' ((first|refine nI ?_|refine aI ?_|refine tI ?_|refine fI ?_|fail);conv=>whnf)
    refine dD (gf _ _ _) (fun _=>?_) (fun _=>?_)<;>(conv=>whnf)
    case refine_2=>rename_i hh;exact⟨aq (no2 (fun hn=>hh (by have:=hn.1.1;have:=hn.1.2.1;omega))),rfl⟩
    rename_i g1
    refine ah ?_ ?_<;>(intro g3;conv=>whnf)
    ·exact⟨aq (no2 (fun hn=>hn.1.2.2.1 g3)),rfl⟩
    refine nI ?_
    conv=>whnf
    refine ah ?_ ?_<;>(intro g4;conv=>whnf)
    ·exact⟨aq (no2 (fun hn=>g4 hn.1.2.2.2)),rfl⟩
    have hpr:BU c r x:=⟨by omega,by omega,g3,by
     by_cases e:c.states.getD x.partner.toNat 0=r.pfrom
     ·exact e
     ·exact absurd e g4⟩
    repeat' ((first|refine nI ?_|refine aI ?_|refine tI ?_|refine fI ?_|fail);conv=>whnf)
   case pos=>exact⟨az (yes2 ⟨hpr, .inl k2⟩),rfl⟩
   have yes3:s9 p c r x.process.toNat x.partner->j6 p s c x f:=fun hh=>yes2 ⟨hpr, .inr hh⟩
   have no3:¬s9 p c r x.process.toNat x.partner->¬j6 p s c x f:=fun hn=>no2 (fun hh=>hh.2.elim k2 hn)
   rw[hpas] at yes3 no3
   refine ah ?_ ?_<;>(intro d1;conv=>whnf)
   ·rw[if_pos d1] at yes3 no3
    refine ah ?_ ?_<;>(intro d2;conv=>whnf)
    ·exact⟨az (yes3 (by omega)),rfl⟩
    ·exact⟨aq (no3 (by omega)),rfl⟩
   rw[if_neg d1] at yes3 no3
   refine ah ?_ ?_<;>(intro d2;conv=>whnf)
   ·rw[if_pos d2] at yes3 no3
    refine ah ?_ ?_<;>(intro d3;conv=>whnf)
    ·exact⟨az (yes3 (by omega)),rfl⟩
    ·exact⟨aq (no3 (by omega)),rfl⟩
   rw[if_neg d2] at yes3 no3
   refine ah ?_ ?_<;>(intro d3;conv=>whnf)
   ·rw[if_pos d3] at yes3 no3
    refine ah ?_ ?_<;>(intro d4;conv=>whnf)
    ·exact⟨az (yes3 (by omega)),rfl⟩
    refine ah ?_ ?_<;>(intro d5;conv=>whnf)
    ·exact⟨az (yes3 (by omega)),rfl⟩
    ·exact⟨aq (no3 (by omega)),rfl⟩
   ·rw[if_neg d3] at yes3 no3
    refine ah ?_ ?_<;>(intro d4;conv=>whnf)
    ·exact⟨az (yes3 (by omega)),rfl⟩
    ·exact⟨aq (no3 (by omega)),rfl⟩
  rw[if_neg k25] at yes2 no2
  by_cases hpa:x.partner=-1
  case neg=>
   repeat' ((first|refine nI ?_|refine aI ?_|refine tI ?_|refine fI ?_|fail);conv=>whnf)
   exact⟨aq (no2 (fun hh=>hpa hh.1)),rfl⟩
  by_cases k1:r.kind=1
  ·rw[if_pos k1] at yes2 no2
   repeat' ((first|refine nI ?_|refine aI ?_|refine tI ?_|refine fI ?_|fail);conv=>whnf)
   refine dC (HR p s c r x.process f h hB (hR.guards k1)) (fun _=>?_) (fun _=>?_)<;>(conv=>whnf)
   ·rename_i h10;exact⟨az (yes2 ⟨hpa,h10⟩),rfl⟩
   ·rename_i h10;exact⟨aq (no2 (fun hh=>h10 hh.2)),rfl⟩
  rw[if_neg k1] at yes2 no2
  by_cases k3:r.kind=3
  ·rw[if_pos k3] at yes2 no2
   repeat' ((first|refine nI ?_|refine aI ?_|refine tI ?_|refine fI ?_|fail);conv=>whnf)
   exact⟨az (yes2 ⟨hpa,trivial⟩),rfl⟩
  rw[if_neg k3] at yes2 no2
  have k4:r.kind=4:=by omega
  by_cases a1:r.at_=1/\x.process≠0
  ·repeat' ((first|refine nI ?_|refine aI ?_|refine tI ?_|refine fI ?_|fail);conv=>whnf)
   exact⟨aq (no2 (fun hh=>a1.2 (by have:=hh.2.1.1 a1.1;omega))),rfl⟩
  by_cases a2:r.at_=2/\((p.topology=2/\nS p c x.process.toNat≠-1)\/(p.topology=4/\nF p c x.process.toNat≠-1))
  ·have hno:¬j6 p s c x f:=no2 (fun hh=>by
    have:=hh.2.1.2 a2.1
    rcases a2.2 with a3|a3
    ·exact a3.2 (this.1 a3.1)
    ·exact a3.2 (this.2 a3.1))
   repeat' ((first|refine nI ?_|refine aI ?_|refine dz trivial (by omega) ?_|refine dV trivial (by omega) ?_|refine dI ?_|refine dR ?_|refine dP ?_|refine al rfl ?_|refine pI _ rfl ?_|refine ap _ rfl ?_|refine tI ?_|refine fI ?_|refine ah (fun _=>?_) (fun _=>?_))<;>conv=>whnf)
   all_goals exact⟨aq hno,rfl⟩
  have hpos:zF p c r x.process.toNat:=⟨fun e=>by omega,fun e=>⟨fun e2=>by omega,fun e2=>by omega⟩⟩
  repeat' ((first|refine nI ?_|refine aI ?_|refine dz trivial (by omega) ?_|refine dV trivial (by omega) ?_|refine dI ?_|refine dR ?_|refine dP ?_|refine al rfl ?_|refine pI _ rfl ?_|refine ap _ rfl ?_|refine tI ?_|refine fI ?_|refine ah (fun _=>?_) (fun _=>?_))<;>conv=>whnf)
  all_goals first
   |(exfalso;omega)
   |skip
  all_goals
   refine dC (pZ c r.left _ (by omega) (by omega) h.wide) (fun _=>?_) (fun _=>?_)<;>(conv=>whnf)
   case refine_2=>rename_i h10;exact⟨aq (no2 (fun hh=>h10 hh.2.2.1)),rfl⟩
   rename_i h10
   refine dC (pZ c r.right _ (by omega) (by omega) h.wide) (fun _=>?_) (fun _=>?_)<;>(conv=>whnf)
   case refine_2=>rename_i h11;exact⟨aq (no2 (fun hh=>h11 hh.2.2.2.1)),rfl⟩
   rename_i h11
   refine dC (pZ c r.parent _ (by omega) (by omega) h.wide) (fun _=>?_) (fun _=>?_)<;>(conv=>whnf)
   ·rename_i h12;exact⟨az (yes2 ⟨hpa,hpos,h10,h11,h12⟩),rfl⟩
   ·rename_i h12;exact⟨aq (no2 (fun hh=>h12 hh.2.2.2.2)),rfl⟩
def K5 (p:au) (s:bA) (c:aR) (r i:Int):Prop:=i<c.correct/\∃k:Nat,k<=c.states.length/\j6 p s c ⟨r,i,(k:Int)-1⟩ true
noncomputable instance decFc (p:au) (s:bA) (c:aR) (r i:Int):Decidable (K5 p s c r i):=Classical.propDecidable _
end Go.Proofs.YtnjggjhkfncnlaaGreatDoor
