import Derived.Test.YtekmminpfhacpaaGreatDoorM6
set_option linter.unusedVariables false
set_option linter.unusedSimpArgs false
namespace Go.Proofs.YtekmminpfhacpaaGreatDoor
set_option maxRecDepth 100000
set_option maxHeartbeats 16000000
theorem tX {i:Int} (h:0<=i):((i.toNat:Nat):Int)=i:=by omega
theorem pN (p:ap) (s:aN) (c:aD) (x:bX) (f:Bool) (h:fp p s c):ab Tryz.prog 163 [.agg (tF p s c), .agg (iA x), .bool f] (fun u=>u= .bool (decide (qc p s c x f))):=by
 have hle:=eX h.big
 have hc:=eY h.wide
 have f1:((List.range c.states.length).map (wN p.topology c.shape c.states.length)).length=c.states.length:=by simp
 have f2:((List.range c.states.length).map (wO p.topology c.shape c.states.length)).length=c.states.length:=by simp
 have f3:((List.range c.states.length).map (yT p.topology c.shape c.states.length)).length=c.states.length:=by simp
 refine ab.intro ae ag Tryz.func163 rfl (by decide) ?_;(conv=>whnf)
 refine ar rfl ?_
 conv=>whnf
 refine ar rfl ?_
 conv=>whnf
 refine ai ?_ ?_<;>(intro h1;conv=>whnf)
 ·exact⟨aC (fun hh=>by have:=hh.1;omega),rfl⟩
 refine ai ?_ ?_<;>(intro h2;conv=>whnf)
 ·exact⟨aC (fun hh=>by have:=hh.1;omega),rfl⟩
 refine ai ?_ ?_<;>(intro h3;conv=>whnf)
 ·exact⟨aC (fun hh=>by have:=hh.1;omega),rfl⟩
 refine ai ?_ ?_<;>(intro h4;conv=>whnf)
 ·exact⟨aC (fun hh=>by have:=hh.1;omega),rfl⟩
 have yes:RH p s c (p.rules.getD x.rule.toNat au) x f->qc p s c x f:=fun hh=>⟨by omega,hh⟩
 have no:¬RH p s c (p.rules.getD x.rule.toNat au) x f->¬qc p s c x f:=fun hn hh=>hn hh.2
 have hR:=dK h.val (i:=x.rule.toNat) (by omega)
 have hB:=i6 h.big (j:=x.rule.toNat) (by omega)
 have hbr:=jM hB
 refine nI ?_
 generalize p.rules.getD x.rule.toNat au=r at yes no hR hB hbr
 have hrd:=hR.read
 have hfit:=hR.fit
 unfold kq at hfit
 conv=>whnf
 refine dI ?_
 conv=>whnf
 refine nI ?_
 conv=>whnf
 refine ai ?_ ?_<;>(intro h5;conv=>whnf)
 ·exact⟨aC (no (fun hh=>h5 hh.1)),rfl⟩
 have h5':c.states.getD x.process.toNat 0=r.src:=by
  by_cases e:c.states.getD x.process.toNat 0=r.src
  ·exact e
  ·exact absurd e h5
 by_cases h6:r.read=-1\/c.value=r.read
 case neg=>
  repeat' ((first|refine nI ?_|refine aI ?_|refine tI ?_|refine fI ?_|fail);conv=>whnf)
  exact⟨aC (no (fun hh=>h6 hh.2.1)),rfl⟩
 have yes2:Bn p s c r x f->qc p s c x f:=fun hh=>yes ⟨h5',h6,hh⟩
 have no2:¬Bn p s c r x f->¬qc p s c x f:=fun hn=>no (fun hh=>hn hh.2.2)
 have hkb:Bn p s c r x f=(if r.kind=2\/r.kind=5 then NS c r x/\(r.kind=2\/G0 p c r x.process.toNat x.partner)
  else x.partner=-1/\(if r.kind=1 then qE p s c r f/\KM c r x.process else if r.kind=3 then True else Qq p c r x.process.toNat)):=rfl
 rw[hkb] at yes2 no2
 have hcase:(r.read=-1)\/(0<=r.read/\c.value=r.read):=by omega
 rcases hcase with h7|⟨h7,h8⟩
 all_goals
  repeat' ((first|refine nI ?_|refine aI ?_|refine tI ?_|refine fI ?_|fail);conv=>whnf)
  by_cases k25:r.kind=2\/r.kind=5
  ·rw[if_pos k25] at yes2 no2
   by_cases hpr:NS c r x
   case neg=>
    have hpr':¬(0<=x.partner/\x.partner<c.states.length/\x.partner≠x.process/\c.states.getD x.partner.toNat 0=r.pfrom):=hpr
    rcases k25 with k2|k5
    all_goals
     repeat' ((first|refine nI ?_|refine aI ?_|refine tI ?_|refine fI ?_|fail);conv=>whnf)
     refine dI ?_
     conv=>whnf
     refine ai ?_ ?_<;>(intro g1;conv=>whnf)
     ·exact⟨aC (no2 (fun hh=>hpr hh.1)),rfl⟩
     refine ai ?_ ?_<;>(intro g2;conv=>whnf)
     ·exact⟨aC (no2 (fun hh=>hpr hh.1)),rfl⟩
     refine ai ?_ ?_<;>(intro g3;conv=>whnf)
     ·exact⟨aC (no2 (fun hh=>hpr hh.1)),rfl⟩
     refine nI ?_
     conv=>whnf
     refine tI ?_
     conv=>whnf
     exact⟨aC (no2 (fun hh=>hpr hh.1)),rfl⟩
   obtain⟨g1,g2,g3,g4⟩:=id hpr
   by_cases k2:r.kind=2
   ·repeat' ((first|refine nI ?_|refine aI ?_|refine tI ?_|refine fI ?_|fail);conv=>whnf)
    refine dI ?_
    conv=>whnf
    repeat' ((first|refine nI ?_|refine aI ?_|refine tI ?_|refine fI ?_|fail);conv=>whnf)
    exact⟨bk (yes2 ⟨hpr, .inl k2⟩),rfl⟩
   ·repeat' ((first|refine nI ?_|refine aI ?_|refine tI ?_|refine fI ?_|fail);conv=>whnf)
    refine dI ?_
    conv=>whnf
    repeat' ((first|refine nI ?_|refine aI ?_|refine tI ?_|refine fI ?_|fail);conv=>whnf)
    have hp:=KS p s c r x.process.toNat x.partner (by omega)
    rw[tX (by omega)] at hp
    refine dC (hp) (fun _=>?_) (fun _=>?_)<;>(conv=>whnf)
    ·rename_i h9;exact⟨bk (yes2 ⟨hpr, .inr h9⟩),rfl⟩
    ·rename_i h9;exact⟨aC (no2 (fun hh=>hh.2.elim k2 h9)),rfl⟩
  rw[if_neg k25] at yes2 no2
  by_cases hpa:x.partner=-1
  case neg=>
   repeat' ((first|refine nI ?_|refine aI ?_|refine tI ?_|refine fI ?_|fail);conv=>whnf)
   exact⟨aC (no2 (fun hh=>hpa hh.1)),rfl⟩
  by_cases k1:r.kind=1
  ·rw[if_pos k1] at yes2 no2
   repeat' ((first|refine nI ?_|refine aI ?_|refine tI ?_|refine fI ?_|fail);conv=>whnf)
   refine dC (KL p s c r f h hB (hR.guards k1)) (fun _=>?_) (fun _=>?_)<;>(conv=>whnf)
   case refine_2=>rename_i h9;exact⟨aC (no2 (fun hh=>h9 hh.2.1)),rfl⟩
   rename_i h9
   refine dC (KR p s c r x.process h.wide hB) (fun _=>?_) (fun _=>?_)<;>(conv=>whnf)
   ·rename_i h10;exact⟨bk (yes2 ⟨hpa,h9,h10⟩),rfl⟩
   ·rename_i h10;exact⟨aC (no2 (fun hh=>h10 hh.2.2)),rfl⟩
  rw[if_neg k1] at yes2 no2
  by_cases k3:r.kind=3
  ·rw[if_pos k3] at yes2 no2
   repeat' ((first|refine nI ?_|refine aI ?_|refine tI ?_|refine fI ?_|fail);conv=>whnf)
   exact⟨bk (yes2 ⟨hpa,trivial⟩),rfl⟩
  rw[if_neg k3] at yes2 no2
  have k4:r.kind=4:=by omega
  have hlt:=Qk (t:=p.topology) (l:=c.shape) (n:=c.states.length) (i:=x.process.toNat) (by omega)
  have hlp:=Qp (t:=p.topology) (l:=c.shape) (n:=c.states.length) (i:=x.process.toNat) (by omega)
  repeat' ((first|refine nI ?_|refine aI ?_|refine tI ?_|refine fI ?_|fail);conv=>whnf)
  refine dI ?_
  conv=>whnf
  have hpo:=EI p s c r x.process.toNat h hR k4 (by omega)
  rw[tX (by omega)] at hpo
  refine dD (hpo) (fun _=>?_) (fun _=>?_)<;>(conv=>whnf)
  case refine_2=>rename_i h9;exact⟨aC (no2 (fun hh=>h9 hh.2.1)),rfl⟩
  rename_i h9
  refine nI ?_
  rw[aR _ _ _ (by omega)]
  conv=>whnf
  refine dD (GY p s c r.left _ (by omega) (by omega) h.wide) (fun _=>?_) (fun _=>?_)<;>(conv=>whnf)
  case refine_2=>rename_i h10;exact⟨aC (no2 (fun hh=>h10 hh.2.2.1)),rfl⟩
  rename_i h10
  refine nI ?_
  rw[aR _ _ _ (by omega)]
  conv=>whnf
  refine dD (GY p s c r.right _ (by omega) (by omega) h.wide) (fun _=>?_) (fun _=>?_)<;>(conv=>whnf)
  case refine_2=>rename_i h11;exact⟨aC (no2 (fun hh=>h11 hh.2.2.2.1)),rfl⟩
  rename_i h11
  refine nI ?_
  rw[aR _ _ _ (by omega)]
  conv=>whnf
  refine dD (GY p s c r.parent _ (by omega) (by omega) h.wide) (fun _=>?_) (fun _=>?_)<;>(conv=>whnf)
  ·rename_i h12;exact⟨bk (yes2 ⟨hpa,h9,h10,h11,h12⟩),rfl⟩
  ·rename_i h12;exact⟨aC (no2 (fun hh=>h12 hh.2.2.2.2)),rfl⟩
def R6 (p:ap) (s:aN) (c:aD) (r i:Int):Prop:=i<c.correct/\∃k:Nat,k<=c.states.length/\qc p s c ⟨r,i,(k:Int)-1⟩ true
noncomputable instance decFc (p:ap) (s:aN) (c:aD) (r i:Int):Decidable (R6 p s c r i):=Classical.propDecidable _
def E7 (a b d e:Nat) (c:aD):AV:=.agg [.row a c.shape.length 1, .row b c.states.length 1, .int .i64 c.correct, .row d c.sent.length 1, .row e c.faulty.length 1, .int .i64 c.value]
def uM (c:aD):AV:=E7 1001 1002 1003 1004 c
def xr (c:aD):List (Nat×aU):=[(1001,cw c.shape),(1002,cw c.states),(1003,cw c.sent),(1004,cw c.faulty)]
def E8 (a b d e:Nat):aV:=[(1001, .old a),(1002, .old b),(1003, .old d),(1004, .old e)]
def OK (a b d e:Nat) (c:aD) (M:ac):Prop:=M a=some (cw c.shape)/\M b=some (cw c.states)/\M d=some (cw c.sent)/\M e=some (cw c.faulty)
def SH (a b d e:Nat) (c:aD):AV->ac->Prop:=fun u M=>u=E7 a b d e c/\OK a b d e c M
def SI (a b d e:Nat) (c:aD) (n:Int):AV->ac->Prop:=fun u M=>u= .tup [E7 a b d e c, .int .i64 n]/\OK a b d e c M
theorem QJ {a b d e:Nat} {c:aD} {M:ac} (h:OK a b d e c M):bD (E8 a b d e) 400 M (xr c):=by
 obtain⟨h1,h2,h3,h4⟩:=h
 refine⟨?_,?_,?_,?_,trivial⟩
 ·show jx _ 400 (M a) _;rw[h1];rfl
 ·show jx _ 400 (M b) _;rw[h2];rfl
 ·show jx _ 400 (M d) _;rw[h3];rfl
 ·show jx _ 400 (M e) _;rw[h4];rfl
theorem OL {a b d e:Nat} {c:aD}:∀u M',SH a b d e c u M'->bD (E8 a b d e) 400 M' (xr c)/\lU (E8 a b d e) 400 u (uM c):=by
 rintro _ M' ⟨rfl,h⟩
 exact⟨QJ h,by simp[lU,fV,E8,al,E7,uM]⟩
theorem OM {a b d e:Nat} {c:aD} {m:Int}:∀u M',SI a b d e c m u M'->bD (E8 a b d e) 400 M' (xr c)/\lU (E8 a b d e) 400 u (.tup [uM c, .int .i64 m]):=by
 rintro _ M' ⟨rfl,h⟩
 exact⟨QJ h,by simp[lU,fV,E8,al,E7,uM]⟩
theorem BM (c:aD) (hw:dA c=false):aj Tryz.prog 162 [.agg (cy c)] (ac.ofL []) (SH 5 9 13 17 c):=by
 have hc:=eY hw
 refine aj.intro ae ag [] Tryz.func162 rfl (by decide) ?_
 conv=>whnf
 refine yl ?_
 conv=>whnf
 refine nI ?_
 conv=>whnf
 refine nI ?_
 conv=>whnf
 refine nI ?_
 conv=>whnf
 refine nI ?_
 conv=>whnf
 exact⟨rfl,rfl,rfl,rfl,rfl⟩
def ON (c:aD) (r:bE) (x:bX) (j:Nat):Int:=if(j:Int)=x.process then r.dst else if(r.kind=2\/r.kind=5)/\(j:Int)=x.partner then r.pto else if r.kind=3 then r.response.getD (c.states.getD j 0).toNat 0 else c.states.getD j 0
def JW (c:aD) (r:bE) (x:bX):List Int:=(List.range c.states.length).map (ON c r x)
def bP (l:List Int):List Int->List Int
 |[]=>l
 |m::ms=>bP (l.set m.toNat (l.getD m.toNat 0+1)) ms
theorem tY:∀(ms:List Int) (l:List Int) (m:Int),bP l (ms++[m])=(bP l ms).set m.toNat ((bP l ms).getD m.toNat 0+1)
 |[],_,_=>rfl
 |a::ms,l,m=>tY ms _ m
theorem tZ {l ms:List Int} {k:Nat} (h:k<ms.length):bP l (ms.take (k+1))=(bP l (ms.take k)).set (ms.getD k 0).toNat ((bP l (ms.take k)).getD (ms.getD k 0).toNat 0+1):=by
 have e:ms.getD k 0=ms[k]:=by rw[gD,gL h];rfl
 rw[List.take_succ_eq_append_getElem h,<-e,tY]
theorem e8:∀(ms l:List Int),(bP l ms).length=l.length
 |[],_=>rfl
 |a::ms,l=>by rw[bP,e8 ms];simp
theorem r5:∀(ms l:List Int) (b:Int),(∀j,0<=l.getD j 0/\l.getD j 0<=b)->∀j,0<=(bP l ms).getD j 0/\(bP l ms).getD j 0<=b+ms.length
 |[],l,b,h,j=>by have:=h j;simp only[bP,List.length_nil];omega
 |a::ms,l,b,h,j=>by
  have:=r5 ms (l.set a.toNat (l.getD a.toNat 0+1)) (b+1) (fun i=>by
   have h1:=h i
   have h2:=h a.toNat
   rw[dU]
   split<;>omega) j
  rw[bP,List.length_cons]
  omega
theorem xt {l:List Int} (h:qA l 1048577):∀j,0<=l.getD j 0/\l.getD j 0<=1048576:=fun j=>by
 by_cases hj:j<l.length
 ·have:=h j hj;omega
 ·rw[gD,List.getElem?_eq_none (by omega)]
  exact⟨by decide,by decide⟩
def Lu (l ms:List Int):Prop:=∀k,k<ms.length->(bP l (ms.take (k+1))).getD (ms.getD k 0).toNat 0<=1048576
def fQ (c:aD) (r:bE) (x:bX):aD:=⟨c.shape,JW c r x,c.correct,if x.process<c.correct then bP c.sent r.send else c.sent,if x.process<c.correct then c.faulty else bP c.faulty r.send,if r.write=-1 then c.value else r.write⟩
def qe (c:aD) (r:bE) (x:bX):Prop:=if x.process<c.correct then Lu c.sent r.send else Lu c.faulty r.send
noncomputable instance decAp (c:aD) (r:bE) (x:bX):Decidable (qe c r x):=Classical.propDecidable _
theorem iU (c:aD) (r:bE) (x:bX):(JW c r x).length=c.states.length:=by simp[JW]
theorem Ia {c:aD} {r:bE} {x:bX} {l:List Int} (hl:l.length=c.states.length) (h:∀j,j<c.states.length->l.getD j 0=ON c r x j):l=JW c r x:=pj hl h
theorem il.send {p:ap} {r:bE} (h:il p r):qA r.send p.messages.length:=by
 by_cases k1:r.kind=1
 ·have:=h.kin
  unfold fg at this
  rw[if_pos k1] at this
  exact(KJ (cz this (cE r.send p.messages.length) (by simp))).1
 ·have hs:=h.sur
  unfold ov at hs
  intro j hj
  omega
theorem il.resp {p:ap} {r:bE} (h:il p r) (hk:r.kind=3):r.response.length=p.states.length/\qA r.response p.states.length:=by
 have:=h.kin
 unfold fg at this
 rw[if_neg (by omega),if_neg (by omega),if_pos hk] at this
 have:=cz this (ob r.response p.states.length) (by simp)
 unfold ob at this
 by_cases h1:(r.response.length:Int)≠p.states.length
 ·rw[if_pos h1] at this;omega
 ·rw[if_neg h1] at this
  by_cases h2:qA r.response p.states.length
  ·exact⟨by omega,h2⟩
  ·rw[if_neg h2] at this;omega
theorem xu {p:ap} (h:aL p=0):0<=p.fault/\p.fault<=3:=by
 unfold aL at h
 by_cases h1:¬dq p.name
 ·rw[if_pos h1] at h;omega
 rw[if_neg h1] at h
 by_cases h2:p.topology<1\/4<p.topology\/p.fault<0\/3<p.fault
 ·rw[if_pos h2] at h;omega
 ·omega
def Ib (l:List aD) (e:Int):AV:=.tup [.sl cf cy l, .int .i64 e]
def R7 (l:List aD):aU:=.row 61 cf cy l
def SY (v:AV):AV->Prop:=fun u=>u=v\/∃e,u= .tup [.nilsl, .int .i64 e]/\v=Ib [] e
theorem ab.rp {f:FuncId} {args:List AV} {v:AV} (hf:∃l e,v=Ib l e) (h:ab Tryz.prog f args (SY v)):ab Tryz.prog f args (fun u=>u=v):=by
 obtain⟨l,e,rfl⟩:=hf
 refine ab.sub h ?_
 rintro u (rfl|⟨e',rfl,h2⟩)
 ·exact⟨_,rfl,aa,rfl⟩
 ·rw[h2];exact⟨_,rfl,aa,rfl⟩
end Go.Proofs.YtekmminpfhacpaaGreatDoor
