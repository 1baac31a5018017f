import Derived.Test.YtokjgegkhlkopaaGreatDoorM6
set_option linter.unusedVariables false
set_option linter.unusedSimpArgs false
namespace Go.Proofs.YtokjgegkhlkopaaGreatDoor
set_option maxRecDepth 100000
set_option maxHeartbeats 16000000
theorem mT {i:Int} (h:0<=i):((i.toNat:Nat):Int)=i:=by omega
theorem xI (p:ao) (s:az) (c:ap) (x:aQ) (f:Bool) (h:c9 p s c):ae Tryz.prog 125 [.agg (iP p s c), .agg (cH x), .bool f] (fun u=>u= .bool (decide (cz p s c x f))):=by
 have hle:=aF h.big
 have hc:=aL h.wide
 have f1:((List.range c.states.length).map (rk p.topology c.shape c.states.length)).length=c.states.length:=by simp
 have f2:((List.range c.states.length).map (p7 p.topology c.shape c.states.length)).length=c.states.length:=by simp
 have f3:((List.range c.states.length).map (s2 p.topology c.shape c.states.length)).length=c.states.length:=by simp
 refine ae.intro ab ac Tryz.func125 rfl (by decide) ?_;(conv=>whnf)
 refine am rfl ?_
 conv=>whnf
 refine am rfl ?_
 conv=>whnf
 refine ah ?_ ?_<;>(intro h1;conv=>whnf)
 ·exact⟨aq (fun hh=>by have:=hh.1;omega),rfl⟩
 refine ah ?_ ?_<;>(intro h2;conv=>whnf)
 ·exact⟨aq (fun hh=>by have:=hh.1;omega),rfl⟩
 refine ah ?_ ?_<;>(intro h3;conv=>whnf)
 ·exact⟨aq (fun hh=>by have:=hh.1;omega),rfl⟩
 refine ah ?_ ?_<;>(intro h4;conv=>whnf)
 ·exact⟨aq (fun hh=>by have:=hh.1;omega),rfl⟩
 have yes:Jc p s c (p.rules.getD x.rule.toNat au) x f->cz p s c x f:=fun hh=>⟨by omega,hh⟩
 have no:¬Jc p s c (p.rules.getD x.rule.toNat au) x f->¬cz p s c x f:=fun hn hh=>hn hh.2
 have hR:=aK h.val (i:=x.rule.toNat) (by omega)
 have hB:=aY h.big (j:=x.rule.toNat) (by omega)
 have hbr:=br hB
 refine nI ?_
 generalize p.rules.getD x.rule.toNat au=r at yes no hR hB hbr
 have hrd:=hR.read
 have hfit:=hR.fit
 unfold cj at hfit
 conv=>whnf
 refine dI ?_
 conv=>whnf
 refine nI ?_
 conv=>whnf
 refine ah ?_ ?_<;>(intro h5;conv=>whnf)
 ·exact⟨aq (no (fun hh=>h5 hh.1)),rfl⟩
 have h5':c.states.getD x.process.toNat 0=r.src:=by
  by_cases e:c.states.getD x.process.toNat 0=r.src
  ·exact e
  ·exact absurd e h5
 by_cases h6:r.read=-1\/c.value=r.read
 case neg=>
  repeat' ((first|refine nI ?_|refine aI ?_|refine tI ?_|refine fI ?_|fail);conv=>whnf)
  exact⟨aq (no (fun hh=>h6 hh.2.1)),rfl⟩
 have yes2:tb p s c r x f->cz p s c x f:=fun hh=>yes ⟨h5',h6,hh⟩
 have no2:¬tb p s c r x f->¬cz p s c x f:=fun hn=>no (fun hh=>hn hh.2.2)
 have hkb:tb p s c r x f=(if r.kind=2\/r.kind=5 then xH c r x/\(r.kind=2\/vC p c r x.process.toNat x.partner)
  else x.partner=-1/\(if r.kind=1 then vw p s c r f/\xE c r x.process else if r.kind=3 then True else Kq p c r x.process.toNat)):=rfl
 rw[hkb] at yes2 no2
 have hcase:(r.read=-1)\/(0<=r.read/\c.value=r.read):=by omega
 rcases hcase with h7|⟨h7,h8⟩
 all_goals
  repeat' ((first|refine nI ?_|refine aI ?_|refine tI ?_|refine fI ?_|fail);conv=>whnf)
  by_cases k25:r.kind=2\/r.kind=5
  ·rw[if_pos k25] at yes2 no2
   by_cases hpr:xH c r x
   case neg=>
    have hpr':¬(0<=x.partner/\x.partner<c.states.length/\x.partner≠x.process/\c.states.getD x.partner.toNat 0=r.pfrom):=hpr
    rcases k25 with k2|k5
    all_goals
     repeat' ((first|refine nI ?_|refine aI ?_|refine tI ?_|refine fI ?_|fail);conv=>whnf)
     refine dI ?_
     conv=>whnf
     refine ah ?_ ?_<;>(intro g1;conv=>whnf)
     ·exact⟨aq (no2 (fun hh=>hpr hh.1)),rfl⟩
     refine ah ?_ ?_<;>(intro g2;conv=>whnf)
     ·exact⟨aq (no2 (fun hh=>hpr hh.1)),rfl⟩
     refine ah ?_ ?_<;>(intro g3;conv=>whnf)
     ·exact⟨aq (no2 (fun hh=>hpr hh.1)),rfl⟩
     refine nI ?_
     conv=>whnf
     refine tI ?_
     conv=>whnf
     exact⟨aq (no2 (fun hh=>hpr hh.1)),rfl⟩
   obtain⟨g1,g2,g3,g4⟩:=id hpr
   by_cases k2:r.kind=2
   ·repeat' ((first|refine nI ?_|refine aI ?_|refine tI ?_|refine fI ?_|fail);conv=>whnf)
    refine dI ?_
    conv=>whnf
    repeat' ((first|refine nI ?_|refine aI ?_|refine tI ?_|refine fI ?_|fail);conv=>whnf)
    exact⟨aN (yes2 ⟨hpr, .inl k2⟩),rfl⟩
   ·repeat' ((first|refine nI ?_|refine aI ?_|refine tI ?_|refine fI ?_|fail);conv=>whnf)
    refine dI ?_
    conv=>whnf
    repeat' ((first|refine nI ?_|refine aI ?_|refine tI ?_|refine fI ?_|fail);conv=>whnf)
    have hp:=HE p s c r x.process.toNat x.partner (by omega)
    rw[mT (by omega)] at hp
    refine dC (hp) (fun _=>?_) (fun _=>?_)<;>(conv=>whnf)
    ·rename_i h9;exact⟨aN (yes2 ⟨hpr, .inr h9⟩),rfl⟩
    ·rename_i h9;exact⟨aq (no2 (fun hh=>hh.2.elim k2 h9)),rfl⟩
  rw[if_neg k25] at yes2 no2
  by_cases hpa:x.partner=-1
  case neg=>
   repeat' ((first|refine nI ?_|refine aI ?_|refine tI ?_|refine fI ?_|fail);conv=>whnf)
   exact⟨aq (no2 (fun hh=>hpa hh.1)),rfl⟩
  by_cases k1:r.kind=1
  ·rw[if_pos k1] at yes2 no2
   repeat' ((first|refine nI ?_|refine aI ?_|refine tI ?_|refine fI ?_|fail);conv=>whnf)
   refine dC (HB p s c r f h hB (hR.guards k1)) (fun _=>?_) (fun _=>?_)<;>(conv=>whnf)
   case refine_2=>rename_i h9;exact⟨aq (no2 (fun hh=>h9 hh.2.1)),rfl⟩
   rename_i h9
   refine dC (HD p s c r x.process h.wide hB) (fun _=>?_) (fun _=>?_)<;>(conv=>whnf)
   ·rename_i h10;exact⟨aN (yes2 ⟨hpa,h9,h10⟩),rfl⟩
   ·rename_i h10;exact⟨aq (no2 (fun hh=>h10 hh.2.2)),rfl⟩
  rw[if_neg k1] at yes2 no2
  by_cases k3:r.kind=3
  ·rw[if_pos k3] at yes2 no2
   repeat' ((first|refine nI ?_|refine aI ?_|refine tI ?_|refine fI ?_|fail);conv=>whnf)
   exact⟨aN (yes2 ⟨hpa,trivial⟩),rfl⟩
  rw[if_neg k3] at yes2 no2
  have k4:r.kind=4:=by omega
  have hlt:=I8 (t:=p.topology) (l:=c.shape) (n:=c.states.length) (i:=x.process.toNat) (by omega)
  have hlp:=Jb (t:=p.topology) (l:=c.shape) (n:=c.states.length) (i:=x.process.toNat) (by omega)
  repeat' ((first|refine nI ?_|refine aI ?_|refine tI ?_|refine fI ?_|fail);conv=>whnf)
  refine dI ?_
  conv=>whnf
  have hpo:=Cm p s c r x.process.toNat h hR k4 (by omega)
  rw[mT (by omega)] at hpo
  refine dD (hpo) (fun _=>?_) (fun _=>?_)<;>(conv=>whnf)
  case refine_2=>rename_i h9;exact⟨aq (no2 (fun hh=>h9 hh.2.1)),rfl⟩
  rename_i h9
  refine nI ?_
  rw[bi _ _ _ (by omega)]
  conv=>whnf
  refine dD (EY p s c r.left _ (by omega) (by omega) h.wide) (fun _=>?_) (fun _=>?_)<;>(conv=>whnf)
  case refine_2=>rename_i h10;exact⟨aq (no2 (fun hh=>h10 hh.2.2.1)),rfl⟩
  rename_i h10
  refine nI ?_
  rw[bi _ _ _ (by omega)]
  conv=>whnf
  refine dD (EY p s c r.right _ (by omega) (by omega) h.wide) (fun _=>?_) (fun _=>?_)<;>(conv=>whnf)
  case refine_2=>rename_i h11;exact⟨aq (no2 (fun hh=>h11 hh.2.2.2.1)),rfl⟩
  rename_i h11
  refine nI ?_
  rw[bi _ _ _ (by omega)]
  conv=>whnf
  refine dD (EY p s c r.parent _ (by omega) (by omega) h.wide) (fun _=>?_) (fun _=>?_)<;>(conv=>whnf)
  ·rename_i h12;exact⟨aN (yes2 ⟨hpa,h9,h10,h11,h12⟩),rfl⟩
  ·rename_i h12;exact⟨aq (no2 (fun hh=>h12 hh.2.2.2.2)),rfl⟩
end Go.Proofs.YtokjgegkhlkopaaGreatDoor
