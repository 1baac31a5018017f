import Derived.Test.YtekmminpfhacpaaGreatDoorM6
set_option linter.unusedVariables false
set_option linter.unusedSimpArgs false
namespace Go.Proofs.YtekmminpfhacpaaGreatDoor
set_option maxRecDepth 100000
set_option maxHeartbeats 16000000
theorem rO {i:Int} (h:0<=i):((i.toNat:Nat):Int)=i:=by omega
theorem lB (p:an) (s:aJ) (c:az) (x:bH) (f:Bool) (h:dx p s c):ab Tryz.prog 163 [.agg (pO p s c), .agg (dG x), .bool f] (fun u=>u= .bool (decide (mL p s c x f))):=by
 have hle:=bL h.big
 have hc:=bE h.wide
 have f1:((List.range c.states.length).map (sq p.topology c.shape c.states.length)).length=c.states.length:=by simp
 have f2:((List.range c.states.length).map (sr p.topology c.shape c.states.length)).length=c.states.length:=by simp
 have f3:((List.range c.states.length).map (vR p.topology c.shape c.states.length)).length=c.states.length:=by simp
 refine ab.intro ae ag Tryz.func163 rfl (by decide) ?_;(conv=>whnf)
 refine al rfl ?_
 conv=>whnf
 refine al rfl ?_
 conv=>whnf
 refine ah ?_ ?_<;>(intro h1;conv=>whnf)
 ·exact⟨au (fun hh=>by have:=hh.1;omega),rfl⟩
 refine ah ?_ ?_<;>(intro h2;conv=>whnf)
 ·exact⟨au (fun hh=>by have:=hh.1;omega),rfl⟩
 refine ah ?_ ?_<;>(intro h3;conv=>whnf)
 ·exact⟨au (fun hh=>by have:=hh.1;omega),rfl⟩
 refine ah ?_ ?_<;>(intro h4;conv=>whnf)
 ·exact⟨au (fun hh=>by have:=hh.1;omega),rfl⟩
 have yes:NT p s c (p.rules.getD x.rule.toNat ap) x f->mL p s c x f:=fun hh=>⟨by omega,hh⟩
 have no:¬NT p s c (p.rules.getD x.rule.toNat ap) x f->¬mL p s c x f:=fun hn hh=>hn hh.2
 have hR:=cQ h.val (i:=x.rule.toNat) (by omega)
 have hB:=ii h.big (j:=x.rule.toNat) (by omega)
 have hbr:=i6 hB
 refine nI ?_
 generalize p.rules.getD x.rule.toNat ap=r at yes no hR hB hbr
 have hrd:=hR.read
 have hfit:=hR.fit
 unfold fR at hfit
 conv=>whnf
 refine dI ?_
 conv=>whnf
 refine nI ?_
 conv=>whnf
 refine ah ?_ ?_<;>(intro h5;conv=>whnf)
 ·exact⟨au (no (fun hh=>h5 hh.1)),rfl⟩
 have h5':c.states.getD x.process.toNat 0=r.src:=by
  by_cases e:c.states.getD x.process.toNat 0=r.src
  ·exact e
  ·exact absurd e h5
 by_cases h6:r.read=-1\/c.value=r.read
 case neg=>
  repeat' ((first|refine nI ?_|refine aI ?_|refine tI ?_|refine fI ?_|fail);conv=>whnf)
  exact⟨au (no (fun hh=>h6 hh.2.1)),rfl⟩
 have yes2:uE p s c r x f->mL p s c x f:=fun hh=>yes ⟨h5',h6,hh⟩
 have no2:¬uE p s c r x f->¬mL p s c x f:=fun hn=>no (fun hh=>hn hh.2.2)
 have hkb:uE p s c r x f=(if r.kind=2\/r.kind=5 then KG c r x/\(r.kind=2\/EQ p c r x.process.toNat x.partner)
  else x.partner=-1/\(if r.kind=1 then nw p s c r f/\HZ c r x.process else if r.kind=3 then True else MQ p c r x.process.toNat)):=rfl
 rw[hkb] at yes2 no2
 have hcase:(r.read=-1)\/(0<=r.read/\c.value=r.read):=by omega
 rcases hcase with h7|⟨h7,h8⟩
 all_goals
  repeat' ((first|refine nI ?_|refine aI ?_|refine tI ?_|refine fI ?_|fail);conv=>whnf)
  by_cases k25:r.kind=2\/r.kind=5
  ·rw[if_pos k25] at yes2 no2
   by_cases hpr:KG c r x
   case neg=>
    have hpr':¬(0<=x.partner/\x.partner<c.states.length/\x.partner≠x.process/\c.states.getD x.partner.toNat 0=r.pfrom):=hpr
    rcases k25 with k2|k5
    all_goals
     repeat' ((first|refine nI ?_|refine aI ?_|refine tI ?_|refine fI ?_|fail);conv=>whnf)
     refine dI ?_
     conv=>whnf
     refine ah ?_ ?_<;>(intro g1;conv=>whnf)
     ·exact⟨au (no2 (fun hh=>hpr hh.1)),rfl⟩
     refine ah ?_ ?_<;>(intro g2;conv=>whnf)
     ·exact⟨au (no2 (fun hh=>hpr hh.1)),rfl⟩
     refine ah ?_ ?_<;>(intro g3;conv=>whnf)
     ·exact⟨au (no2 (fun hh=>hpr hh.1)),rfl⟩
     refine nI ?_
     conv=>whnf
     refine tI ?_
     conv=>whnf
     exact⟨au (no2 (fun hh=>hpr hh.1)),rfl⟩
   obtain⟨g1,g2,g3,g4⟩:=id hpr
   by_cases k2:r.kind=2
   ·repeat' ((first|refine nI ?_|refine aI ?_|refine tI ?_|refine fI ?_|fail);conv=>whnf)
    refine dI ?_
    conv=>whnf
    repeat' ((first|refine nI ?_|refine aI ?_|refine tI ?_|refine fI ?_|fail);conv=>whnf)
    exact⟨aH (yes2 ⟨hpr, .inl k2⟩),rfl⟩
   ·repeat' ((first|refine nI ?_|refine aI ?_|refine tI ?_|refine fI ?_|fail);conv=>whnf)
    refine dI ?_
    conv=>whnf
    repeat' ((first|refine nI ?_|refine aI ?_|refine tI ?_|refine fI ?_|fail);conv=>whnf)
    have hp:=H8 p s c r x.process.toNat x.partner (by omega)
    rw[rO (by omega)] at hp
    refine dC (hp) (fun _=>?_) (fun _=>?_)<;>(conv=>whnf)
    ·rename_i h9;exact⟨aH (yes2 ⟨hpr, .inr h9⟩),rfl⟩
    ·rename_i h9;exact⟨au (no2 (fun hh=>hh.2.elim k2 h9)),rfl⟩
  rw[if_neg k25] at yes2 no2
  by_cases hpa:x.partner=-1
  case neg=>
   repeat' ((first|refine nI ?_|refine aI ?_|refine tI ?_|refine fI ?_|fail);conv=>whnf)
   exact⟨au (no2 (fun hh=>hpa hh.1)),rfl⟩
  by_cases k1:r.kind=1
  ·rw[if_pos k1] at yes2 no2
   repeat' ((first|refine nI ?_|refine aI ?_|refine tI ?_|refine fI ?_|fail);conv=>whnf)
   refine dC (HY p s c r f h hB (hR.guards k1)) (fun _=>?_) (fun _=>?_)<;>(conv=>whnf)
   case refine_2=>rename_i h9;exact⟨au (no2 (fun hh=>h9 hh.2.1)),rfl⟩
   rename_i h9
   refine dC (H7 p s c r x.process h.wide hB) (fun _=>?_) (fun _=>?_)<;>(conv=>whnf)
   ·rename_i h10;exact⟨aH (yes2 ⟨hpa,h9,h10⟩),rfl⟩
   ·rename_i h10;exact⟨au (no2 (fun hh=>h10 hh.2.2)),rfl⟩
  rw[if_neg k1] at yes2 no2
  by_cases k3:r.kind=3
  ·rw[if_pos k3] at yes2 no2
   repeat' ((first|refine nI ?_|refine aI ?_|refine tI ?_|refine fI ?_|fail);conv=>whnf)
   exact⟨aH (yes2 ⟨hpa,trivial⟩),rfl⟩
  rw[if_neg k3] at yes2 no2
  have k4:r.kind=4:=by omega
  have hlt:=JL (t:=p.topology) (l:=c.shape) (n:=c.states.length) (i:=x.process.toNat) (by omega)
  have hlp:=MP (t:=p.topology) (l:=c.shape) (n:=c.states.length) (i:=x.process.toNat) (by omega)
  repeat' ((first|refine nI ?_|refine aI ?_|refine tI ?_|refine fI ?_|fail);conv=>whnf)
  refine dI ?_
  conv=>whnf
  have hpo:=Ch p s c r x.process.toNat h hR k4 (by omega)
  rw[rO (by omega)] at hpo
  refine dD (hpo) (fun _=>?_) (fun _=>?_)<;>(conv=>whnf)
  case refine_2=>rename_i h9;exact⟨au (no2 (fun hh=>h9 hh.2.1)),rfl⟩
  rename_i h9
  refine nI ?_
  rw[aM _ _ _ (by omega)]
  conv=>whnf
  refine dD (EO p s c r.left _ (by omega) (by omega) h.wide) (fun _=>?_) (fun _=>?_)<;>(conv=>whnf)
  case refine_2=>rename_i h10;exact⟨au (no2 (fun hh=>h10 hh.2.2.1)),rfl⟩
  rename_i h10
  refine nI ?_
  rw[aM _ _ _ (by omega)]
  conv=>whnf
  refine dD (EO p s c r.right _ (by omega) (by omega) h.wide) (fun _=>?_) (fun _=>?_)<;>(conv=>whnf)
  case refine_2=>rename_i h11;exact⟨au (no2 (fun hh=>h11 hh.2.2.2.1)),rfl⟩
  rename_i h11
  refine nI ?_
  rw[aM _ _ _ (by omega)]
  conv=>whnf
  refine dD (EO p s c r.parent _ (by omega) (by omega) h.wide) (fun _=>?_) (fun _=>?_)<;>(conv=>whnf)
  ·rename_i h12;exact⟨aH (yes2 ⟨hpa,h9,h10,h11,h12⟩),rfl⟩
  ·rename_i h12;exact⟨au (no2 (fun hh=>h12 hh.2.2.2.2)),rfl⟩
def JT (p:an) (s:aJ) (c:az) (r i:Int):Prop:=i<c.correct/\∃k:Nat,k<=c.states.length/\mL p s c ⟨r,i,(k:Int)-1⟩ true
noncomputable instance decFc (p:an) (s:aJ) (c:az) (r i:Int):Decidable (JT p s c r i):=Classical.propDecidable _
theorem IP (p:an) (s:aJ) (c:az) (r i:Int) (h:dx p s c):ab Tryz.prog 153 [.agg (pO p s c), .int .i64 r, .int .i64 i] (fun u=>u= .bool (decide (JT p s c r i))):=by
 have hc:=bE h.wide
 refine ab.intro ae ag Tryz.func153 rfl (by decide) ?_;(conv=>whnf)
 refine al rfl ?_
 conv=>whnf
 refine ah ?_ ?_<;>(intro h1;conv=>whnf)
 ·exact⟨au (fun hh=>by obtain⟨_,k,_,he⟩:=hh;have:=he.1.2.1;dsimp only at this;omega),rfl⟩
 refine ah ?_ ?_<;>(intro h2;conv=>whnf)
 ·exact⟨au (fun hh=>by have:=hh.1;omega),rfl⟩
 refine aQ.loopF ae ag (fun k:Nat=>k<=c.states.length+1/\∀j:Nat,j<k->¬mL p s c ⟨r,i,(j:Int)-1⟩ true) (fun k=>[(7, .int .i64 ((k:Int)-1))]) (fun _=>[]) (fun k=>c.states.length+1-k) 0 ⟨by omega,fun j hj=>by omega⟩ ?_;conv=>whnf
 refine⟨sI,?_⟩
 rintro k ⟨hk,ha⟩
 conv=>whnf
 refine ah ?_ ?_<;>(intro h3;conv=>whnf)
 ·refine dC (lB p s c ⟨r,i,(k:Int)-1⟩ true h) (fun _=>?_) (fun _=>?_)<;>(conv=>whnf)
  ·rename_i h4
   exact⟨aH ⟨by omega,k,by omega,h4⟩,rfl⟩
  ·rename_i h4
   repeat' ((first|refine nI ?_|refine aI ?_|refine tI ?_|refine fI ?_|fail);conv=>whnf)
   refine⟨k+1,sI,⟨by omega,fun j hj=>?_⟩,by dsimp only;omega⟩
   by_cases e:j=k
   ·subst e;exact h4
   ·exact ha j (by omega)
 ·exact⟨au (fun⟨_,j,hj,he⟩=>ha j (by omega) he),rfl⟩
def CF (a b d e:Nat) (c:az):AV:=.agg [.row a c.shape.length 1, .row b c.states.length 1, .int .i64 c.correct, .row d c.sent.length 1, .row e c.faulty.length 1, .int .i64 c.value]
def pS (c:az):AV:=CF 1001 1002 1003 1004 c
def rP (c:az):List (Nat×cp):=[(1001,b7 c.shape),(1002,b7 c.states),(1003,b7 c.sent),(1004,b7 c.faulty)]
def zm (a b d e:Nat):dE:=[(1001, .old a),(1002, .old b),(1003, .old d),(1004, .old e)]
def Lz (a b d e:Nat) (c:az) (M:aj):Prop:=M a=some (b7 c.shape)/\M b=some (b7 c.states)/\M d=some (b7 c.sent)/\M e=some (b7 c.faulty)
def OH (a b d e:Nat) (c:az):AV->aj->Prop:=fun u M=>u=CF a b d e c/\Lz a b d e c M
def OI (a b d e:Nat) (c:az) (n:Int):AV->aj->Prop:=fun u M=>u= .tup [CF a b d e c, .int .i64 n]/\Lz a b d e c M
theorem Ni {a b d e:Nat} {c:az} {M:aj} (h:Lz a b d e c M):dV (zm a b d e) 400 M (rP c):=by
 obtain⟨h1,h2,h3,h4⟩:=h
 refine⟨?_,?_,?_,?_,trivial⟩
 ·show ox _ 400 (M a) _;rw[h1];rfl
 ·show ox _ 400 (M b) _;rw[h2];rfl
 ·show ox _ 400 (M d) _;rw[h3];rfl
 ·show ox _ 400 (M e) _;rw[h4];rfl
theorem FV {a b d e:Nat} {c:az}:∀u M',OH a b d e c u M'->dV (zm a b d e) 400 M' (rP c)/\kQ (zm a b d e) 400 u (pS c):=by
 rintro _ M' ⟨rfl,h⟩
 exact⟨Ni h,by simp[kQ,iP,zm,aV,CF,pS]⟩
theorem LA {a b d e:Nat} {c:az} {m:Int}:∀u M',OI a b d e c m u M'->dV (zm a b d e) 400 M' (rP c)/\kQ (zm a b d e) 400 u (.tup [pS c, .int .i64 m]):=by
 rintro _ M' ⟨rfl,h⟩
 exact⟨Ni h,by simp[kQ,iP,zm,aV,CF,pS]⟩
theorem rQ (c:az) (hw:bA c=false):am Tryz.prog 162 [.agg (aW c)] (aj.ofL []) (OH 5 9 13 17 c):=by
 have hc:=bE hw
 refine am.intro ae ag [] Tryz.func162 rfl (by decide) ?_
 conv=>whnf
 refine BF ?_
 conv=>whnf
 refine nI ?_
 conv=>whnf
 refine nI ?_
 conv=>whnf
 refine nI ?_
 conv=>whnf
 refine nI ?_
 conv=>whnf
 exact⟨rfl,rfl,rfl,rfl,rfl⟩
def LB (c:az) (r:bo) (x:bH) (j:Nat):Int:=if(j:Int)=x.process then r.dst else if(r.kind=2\/r.kind=5)/\(j:Int)=x.partner then r.pto else if r.kind=3 then r.response.getD (c.states.getD j 0).toNat 0 else c.states.getD j 0
def G' (c:az) (r:bo) (x:bH):List Int:=(List.range c.states.length).map (LB c r x)
def bP (l:List Int):List Int->List Int
 |[]=>l
 |m::ms=>bP (l.set m.toNat (l.getD m.toNat 0+1)) ms
theorem rR:∀(ms:List Int) (l:List Int) (m:Int),bP l (ms++[m])=(bP l ms).set m.toNat ((bP l ms).getD m.toNat 0+1)
 |[],_,_=>rfl
 |a::ms,l,m=>rR ms _ m
theorem rS {l ms:List Int} {k:Nat} (h:k<ms.length):bP l (ms.take (k+1))=(bP l (ms.take k)).set (ms.getD k 0).toNat ((bP l (ms.take k)).getD (ms.getD k 0).toNat 0+1):=by
 have e:ms.getD k 0=ms[k]:=by rw[gD,gL h];rfl
 rw[List.take_succ_eq_append_getElem h,<-e,rR]
theorem d7:∀(ms l:List Int),(bP l ms).length=l.length
 |[],_=>rfl
 |a::ms,l=>by rw[bP,d7 ms];simp
theorem qh:∀(ms l:List Int) (b:Int),(∀j,0<=l.getD j 0/\l.getD j 0<=b)->∀j,0<=(bP l ms).getD j 0/\(bP l ms).getD j 0<=b+ms.length
 |[],l,b,h,j=>by have:=h j;simp only[bP,List.length_nil];omega
 |a::ms,l,b,h,j=>by
  have:=qh ms (l.set a.toNat (l.getD a.toNat 0+1)) (b+1) (fun i=>by
   have h1:=h i
   have h2:=h a.toNat
   rw[cL]
   split<;>omega) j
  rw[bP,List.length_cons]
  omega
theorem u5 {l:List Int} (h:lV l 1048577):∀j,0<=l.getD j 0/\l.getD j 0<=1048576:=fun j=>by
 by_cases hj:j<l.length
 ·have:=h j hj;omega
 ·rw[gD,List.getElem?_eq_none (by omega)]
  exact⟨by decide,by decide⟩
def IQ (l ms:List Int):Prop:=∀k,k<ms.length->(bP l (ms.take (k+1))).getD (ms.getD k 0).toNat 0<=1048576
def eD (c:az) (r:bo) (x:bH):az:=⟨c.shape,G' c r x,c.correct,if x.process<c.correct then bP c.sent r.send else c.sent,if x.process<c.correct then c.faulty else bP c.faulty r.send,if r.write=-1 then c.value else r.write⟩
def nV (c:az) (r:bo) (x:bH):Prop:=if x.process<c.correct then IQ c.sent r.send else IQ c.faulty r.send
noncomputable instance decAp (c:az) (r:bo) (x:bH):Decidable (nV c r x):=Classical.propDecidable _
theorem hZ (c:az) (r:bo) (x:bH):(G' c r x).length=c.states.length:=by simp[G']
theorem FW {c:az} {r:bo} {x:bH} {l:List Int} (hl:l.length=c.states.length) (h:∀j,j<c.states.length->l.getD j 0=LB c r x j):l=G' c r x:=lU hl h
theorem gI.send {p:an} {r:bo} (h:gI p r):lV r.send p.messages.length:=by
 by_cases k1:r.kind=1
 ·have:=h.kin
  unfold cW at this
  rw[if_pos k1] at this
  exact(Ak (bB this (bC r.send p.messages.length) (by simp))).1
 ·have hs:=h.sur
  unfold iQ at hs
  intro j hj
  omega
theorem gI.resp {p:an} {r:bo} (h:gI p r) (hk:r.kind=3):r.response.length=p.states.length/\lV r.response p.states.length:=by
 have:=h.kin
 unfold cW at this
 rw[if_neg (by omega),if_neg (by omega),if_pos hk] at this
 have:=bB this (i9 r.response p.states.length) (by simp)
 unfold i9 at this
 by_cases h1:(r.response.length:Int)≠p.states.length
 ·rw[if_pos h1] at this;omega
 ·rw[if_neg h1] at this
  by_cases h2:lV r.response p.states.length
  ·exact⟨by omega,h2⟩
  ·rw[if_neg h2] at this;omega
theorem u6 {p:an} (h:aA p=0):0<=p.fault/\p.fault<=3:=by
 unfold aA at h
 by_cases h1:¬cj p.name
 ·rw[if_pos h1] at h;omega
 rw[if_neg h1] at h
 by_cases h2:p.topology<1\/4<p.topology\/p.fault<0\/3<p.fault
 ·rw[if_pos h2] at h;omega
 ·omega
def vS (l:List az) (e:Int):AV:=.tup [.sl aU aW l, .int .i64 e]
def Oi (l:List az):cp:=.row 61 aU aW l
def OS (v:AV):AV->Prop:=fun u=>u=v\/∃e,u= .tup [.nilsl, .int .i64 e]/\v=vS [] e
theorem ab.rp {f:FuncId} {args:List AV} {v:AV} (hf:∃l e,v=vS l e) (h:ab Tryz.prog f args (OS v)):ab Tryz.prog f args (fun u=>u=v):=by
 obtain⟨l,e,rfl⟩:=hf
 refine ab.sub h ?_
 rintro u (rfl|⟨e',rfl,h2⟩)
 ·exact⟨_,rfl,aa,rfl⟩
 ·rw[h2];exact⟨_,rfl,aa,rfl⟩
end Go.Proofs.YtekmminpfhacpaaGreatDoor
