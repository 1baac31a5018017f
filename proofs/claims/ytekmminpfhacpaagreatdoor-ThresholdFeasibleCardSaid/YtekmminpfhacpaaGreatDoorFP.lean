import Derived.Test.YtekmminpfhacpaaGreatDoorM7
set_option linter.unusedVariables false
set_option linter.unusedSimpArgs false
namespace Go.Proofs.YtekmminpfhacpaaGreatDoor
set_option maxRecDepth 100000
set_option maxHeartbeats 16000000
def j6:List AV:=[.nilsl, .nilsl, .int .i64 0, .nilsl, .nilsl, .int .i64 0]
def Rg (c:aD) (r:bE) (x:bX):AV->ac->Prop:=fun u M=>(qe c r x/\SI 1001 1002 1003 1004 (fQ c r x) 0 u M)\/(¬qe c r x/\u= .tup [.agg j6, .int .i64 4])
def bxC (c:aD) (v:Int):aU:=.box 61 [.row 1001 c.shape.length 1, .row 1002 c.states.length 1, .int .i64 c.correct, .row 1003 c.sent.length 1, .row 1004 c.faulty.length 1, .int .i64 v]
def SZ:aU:=.box 61 j6
def S0 (r:bE):aU:=.box 180 (iu r)
def SJ (c:aD) (r:bE) (st se fa:List Int):List (Nat×aU):=[(4,SZ),(6,S0 r),(7,bxC c c.value),(1001,cw c.shape),(1002,cw st),(1003,cw se),(1004,cw fa)]
theorem xv {a b d e:Nat} {c:aD} {n1 n2 n3 n4:Nat} {k v:Int} (h1:n1=c.shape.length) (h2:n2=c.states.length) (h3:n3=c.sent.length) (h4:n4=c.faulty.length) (h5:k=c.correct) (h6:v=c.value):
  AV.tup [.agg [.row a n1 1, .row b n2 1, .int .i64 k, .row d n3 1, .row e n4 1, .int .i64 v], .int .i64 0]= .tup [E7 a b d e c, .int .i64 0]:=by
 subst h1;subst h2;subst h3;subst h4;subst h5;subst h6;rfl
theorem Dc {c:aD} {r:bE} {x:bX} (h:x.process<c.correct):fQ c r x=⟨c.shape,JW c r x,c.correct,bP c.sent r.send,c.faulty,if r.write=-1 then c.value else r.write⟩:=by
 unfold fQ;rw[if_pos h,if_pos h]
theorem Dd {c:aD} {r:bE} {x:bX} (h:¬x.process<c.correct):fQ c r x=⟨c.shape,JW c r x,c.correct,c.sent,bP c.faulty r.send,if r.write=-1 then c.value else r.write⟩:=by
 unfold fQ;rw[if_neg h,if_neg h]
theorem Ic (p:ap) (s:aN) (c:aD) (x:bX) (h:fp p s c) (he:qc p s c x false) (hk0:(p.rules.getD x.rule.toNat au).kind=1\/(p.rules.getD x.rule.toNat au).kind=4) (hcor0:x.process<c.correct):aj Tryz.prog 164 [.agg (tF p s c), .agg (iA x)] (ac.ofL []) (Rg c (p.rules.getD x.rule.toNat au) x):=by
 have hle:=eX h.big
 have hc:=eY h.wide
 obtain⟨hin,hen⟩:=he
 have hR:=dK h.val (i:=x.rule.toNat) (by omega)
 have hB:=i6 h.big (j:=x.rule.toNat) (by omega)
 have hsn:=h.vc.snl
 have hfa:=h.vc.fal
 have hsta:=h.vc.sta
 have hco:0<=c.correct/\c.correct<=8:=by
  have:=h.vc.cor
  have:=h.sz
  omega
 refine aj.intro ae ag [] Tryz.func164 rfl (by decide) ?_
 conv=>whnf
 refine ar rfl ?_
 conv=>whnf
 refine ar rfl ?_
 conv=>whnf
 refine nI ?_
 generalize p.rules.getD x.rule.toNat au=r at hen hR hB hk0
 have hcor:=hcor0
 have hbr:=jM hB
 have hrd:=hR.read
 have hfit:=hR.fit
 unfold kq at hfit
 have hse:=hR.send
 conv=>whnf
 refine aj.news 400 (E8 5 9 13 17) (xr c) (uM c) (BM c h.wide) (aa) rfl OL ?_
 conv=>whnf
 refine nI ?_
 conv=>whnf
 refine an _ rfl ?_
 conv=>whnf
 have hpl:x.process.toNat<c.states.length:=by omega
 have hpc:((x.process.toNat:Nat):Int)=x.process:=by omega
 have k14:=hk0
 have hst:c.states.set x.process.toNat r.dst=JW c r x:=Ia (by simp) fun j hj=>by
  rw[dU]
  unfold ON
  by_cases e:x.process.toNat=j
  ·rw[if_pos ⟨e,by omega⟩,if_pos (by omega)]
  ·rw[if_neg (fun h=>e h.1),if_neg (by omega),if_neg (by omega),if_neg (by omega)]
 rw[hst]
 repeat' ((first|refine nI ?_|refine aI ?_|refine tI ?_|refine fI ?_|fail);conv=>whnf)
 repeat' ((first|refine nI ?_|refine aI ?_|refine tI ?_|refine fI ?_|fail);conv=>whnf)
 refine a8.loopF ae ag (fun k:Nat=>k<=r.send.length/\∀j,j<k->(bP c.sent (r.send.take (j+1))).getD (r.send.getD j 0).toNat 0<=1048576) (fun k=>[(79, .int .i64 (k:Int))]) (fun k=>SJ c r (JW c r x) (bP c.sent (r.send.take k)) c.faulty) (fun k=>r.send.length-k) 0 ⟨by omega,fun j hj=>by omega⟩ ?_;conv=>whnf
 refine⟨sI,?_⟩
 rintro k ⟨hk,ha⟩
 conv=>whnf
 refine ai ?_ ?_<;>(intro g1;conv=>whnf)
 ·have hm:=hse k (by omega)
  have hb:=r5 (r.send.take k) c.sent 1048576 (xt h.sent.1) (r.send.getD k 0).toNat
  have htl:(r.send.take k).length<=60:=by rw[List.length_take];omega
  have hup:=tZ (l:=c.sent) (ms:=r.send) (k:=k) (by omega)
  refine nI ?_
  rw[tN]
  conv=>whnf
  refine nI ?_
  conv=>whnf
  refine aI ?_
  conv=>whnf
  refine nI ?_
  conv=>whnf
  refine an _ rfl ?_
  rw[<-hup]
  conv=>whnf
  refine nI ?_
  conv=>whnf
  refine ai ?_ ?_<;>(intro g2;conv=>whnf)
  ·exact .inr ⟨fun hap=>by unfold qe at hap;rw[if_pos hcor] at hap;have:=hap k (by omega);omega,rfl⟩
  ·repeat' ((first|refine nI ?_|refine aI ?_|refine tI ?_|refine fI ?_|fail);conv=>whnf)
   refine⟨k+1,sI,⟨by omega,fun j hj=>?_⟩,by dsimp only;omega⟩
   by_cases e:j=k
   ·subst e;omega
   ·exact ha j (by omega)
 ·obtain rfl:k=r.send.length:=by omega
  rw[List.take_length]
  have hap:qe c r x:=by unfold qe;rw[if_pos hcor];exact ha
  by_cases hwr:r.write=-1
  ·repeat' ((first|refine nI ?_|refine aI ?_|refine tI ?_|refine fI ?_|fail);conv=>whnf)
   refine .inl ⟨hap,?_⟩
   rw[Dc hcor,if_pos hwr]
   exact⟨xv rfl (iU _ _ _).symm (e8 _ _).symm rfl rfl rfl,rfl,rfl,rfl,rfl⟩
  ·repeat' ((first|refine nI ?_|refine aI ?_|refine tI ?_|refine fI ?_|fail);conv=>whnf)
   refine .inl ⟨hap,?_⟩
   rw[Dc hcor,if_neg hwr]
   exact⟨xv rfl (iU _ _ _).symm (e8 _ _).symm rfl rfl rfl,rfl,rfl,rfl,rfl⟩
theorem Ie (p:ap) (s:aN) (c:aD) (x:bX) (h:fp p s c) (he:qc p s c x false) (hk0:(p.rules.getD x.rule.toNat au).kind=1\/(p.rules.getD x.rule.toNat au).kind=4) (hcor0:¬x.process<c.correct):aj Tryz.prog 164 [.agg (tF p s c), .agg (iA x)] (ac.ofL []) (Rg c (p.rules.getD x.rule.toNat au) x):=by
 have hle:=eX h.big
 have hc:=eY h.wide
 obtain⟨hin,hen⟩:=he
 have hR:=dK h.val (i:=x.rule.toNat) (by omega)
 have hB:=i6 h.big (j:=x.rule.toNat) (by omega)
 have hsn:=h.vc.snl
 have hfa:=h.vc.fal
 have hsta:=h.vc.sta
 have hco:0<=c.correct/\c.correct<=8:=by
  have:=h.vc.cor
  have:=h.sz
  omega
 refine aj.intro ae ag [] Tryz.func164 rfl (by decide) ?_
 conv=>whnf
 refine ar rfl ?_
 conv=>whnf
 refine ar rfl ?_
 conv=>whnf
 refine nI ?_
 generalize p.rules.getD x.rule.toNat au=r at hen hR hB hk0
 have hcor:=hcor0
 have hbr:=jM hB
 have hrd:=hR.read
 have hfit:=hR.fit
 unfold kq at hfit
 have hse:=hR.send
 conv=>whnf
 refine aj.news 400 (E8 5 9 13 17) (xr c) (uM c) (BM c h.wide) (aa) rfl OL ?_
 conv=>whnf
 refine nI ?_
 conv=>whnf
 refine an _ rfl ?_
 conv=>whnf
 have hpl:x.process.toNat<c.states.length:=by omega
 have hpc:((x.process.toNat:Nat):Int)=x.process:=by omega
 have k14:=hk0
 have hst:c.states.set x.process.toNat r.dst=JW c r x:=Ia (by simp) fun j hj=>by
  rw[dU]
  unfold ON
  by_cases e:x.process.toNat=j
  ·rw[if_pos ⟨e,by omega⟩,if_pos (by omega)]
  ·rw[if_neg (fun h=>e h.1),if_neg (by omega),if_neg (by omega),if_neg (by omega)]
 rw[hst]
 repeat' ((first|refine nI ?_|refine aI ?_|refine tI ?_|refine fI ?_|fail);conv=>whnf)
 repeat' ((first|refine nI ?_|refine aI ?_|refine tI ?_|refine fI ?_|fail);conv=>whnf)
 refine a8.loopF ae ag (fun k:Nat=>k<=r.send.length/\∀j,j<k->(bP c.faulty (r.send.take (j+1))).getD (r.send.getD j 0).toNat 0<=1048576) (fun k=>[(79, .int .i64 (k:Int))]) (fun k=>SJ c r (JW c r x) c.sent (bP c.faulty (r.send.take k))) (fun k=>r.send.length-k) 0 ⟨by omega,fun j hj=>by omega⟩ ?_;conv=>whnf
 refine⟨sI,?_⟩
 rintro k ⟨hk,ha⟩
 conv=>whnf
 refine ai ?_ ?_<;>(intro g1;conv=>whnf)
 ·have hm:=hse k (by omega)
  have hb:=r5 (r.send.take k) c.faulty 1048576 (xt h.sent.2) (r.send.getD k 0).toNat
  have htl:(r.send.take k).length<=60:=by rw[List.length_take];omega
  have hup:=tZ (l:=c.faulty) (ms:=r.send) (k:=k) (by omega)
  refine nI ?_
  rw[tN]
  conv=>whnf
  refine nI ?_
  conv=>whnf
  refine aI ?_
  conv=>whnf
  refine nI ?_
  conv=>whnf
  refine an _ rfl ?_
  rw[<-hup]
  conv=>whnf
  refine nI ?_
  conv=>whnf
  refine ai ?_ ?_<;>(intro g2;conv=>whnf)
  ·exact .inr ⟨fun hap=>by unfold qe at hap;rw[if_neg hcor] at hap;have:=hap k (by omega);omega,rfl⟩
  ·repeat' ((first|refine nI ?_|refine aI ?_|refine tI ?_|refine fI ?_|fail);conv=>whnf)
   refine⟨k+1,sI,⟨by omega,fun j hj=>?_⟩,by dsimp only;omega⟩
   by_cases e:j=k
   ·subst e;omega
   ·exact ha j (by omega)
 ·obtain rfl:k=r.send.length:=by omega
  rw[List.take_length]
  have hap:qe c r x:=by unfold qe;rw[if_neg hcor];exact ha
  by_cases hwr:r.write=-1
  ·repeat' ((first|refine nI ?_|refine aI ?_|refine tI ?_|refine fI ?_|fail);conv=>whnf)
   refine .inl ⟨hap,?_⟩
   rw[Dd hcor,if_pos hwr]
   exact⟨xv rfl (iU _ _ _).symm rfl (e8 _ _).symm rfl rfl,rfl,rfl,rfl,rfl⟩
  ·repeat' ((first|refine nI ?_|refine aI ?_|refine tI ?_|refine fI ?_|fail);conv=>whnf)
   refine .inl ⟨hap,?_⟩
   rw[Dd hcor,if_neg hwr]
   exact⟨xv rfl (iU _ _ _).symm rfl (e8 _ _).symm rfl rfl,rfl,rfl,rfl,rfl⟩
def K1 (p:ap) (x:bX):Prop:=(p.rules.getD x.rule.toNat au).kind=1/\(p.rules.getD x.rule.toNat au).write=-1
theorem BN (p:ap) (s:aN) (c:aD) (x:bX) (h:fp p s c) (he:qc p s c x false) (hk1:K1 p x):aj Tryz.prog 164 [.agg (tF p s c), .agg (iA x)] (ac.ofL []) (Rg c (p.rules.getD x.rule.toNat au) x):=by
 by_cases hcor:x.process<c.correct
 ·exact Ic p s c x h he (.inl hk1.1) hcor
 ·exact Ie p s c x h he (.inl hk1.1) hcor
theorem Ig (p:ap) (s:aN) (c:aD) (x:bX) (hp:¬jZ p) (hw:dA c=false) (h1:du p s c=0) (hn:¬qc p s c x false):ab Tryz.prog 253 [.agg (dg p), .agg (gr s), .agg (cy c), .agg (iA x)] (fun u=>u= .tup [.agg (cy cf), .int .i64 9]):=by
 refine ab.sub (R:=fun u=>u= .tup [.agg j6, .int .i64 9]) ?_ (by rintro _ rfl;exact⟨_,rfl,aa,rfl⟩)
 have h:=fp.of hp hw h1
 refine ab.intro ae ag Tryz.func253 rfl (by decide) ?_;(conv=>whnf)
 refine ar rfl ?_
 conv=>whnf
 refine ar rfl ?_
 conv=>whnf
 refine ar rfl ?_
 conv=>whnf
 refine ar rfl ?_
 conv=>whnf
 (refine oP (lu p s c hp hw) ?_;conv=>whnf)
 refine fI ?_
 conv=>whnf
 (refine oP (KK p s c hw) ?_;conv=>whnf)
 refine dC (pN p s c x false h) (fun _=>?_) (fun _=>?_)<;>(conv=>whnf)
 ·rename_i he;exact absurd he hn
 exact⟨rfl,rfl⟩
theorem Ih (p:ap) (s:aN) (c:aD) (x:bX) (hp:¬jZ p) (hw:dA c=false) (h1:du p s c=0) (he:qc p s c x false) (hk1:K1 p x):aj Tryz.prog 253 [.agg (dg p), .agg (gr s), .agg (cy c), .agg (iA x)] (ac.ofL []) (Rg c (p.rules.getD x.rule.toNat au) x):=by
 have h:=fp.of hp hw h1
 refine aj.intro ae ag [] Tryz.func253 rfl (by decide) ?_
 conv=>whnf
 refine ar rfl ?_
 conv=>whnf
 refine ar rfl ?_
 conv=>whnf
 refine ar rfl ?_
 conv=>whnf
 refine ar rfl ?_
 conv=>whnf
 (refine oP (lu p s c hp hw) ?_;conv=>whnf)
 refine fI ?_
 conv=>whnf
 (refine oP (KK p s c hw) ?_;conv=>whnf)
 refine dC (pN p s c x false h) (fun _=>?_) (fun _=>?_)<;>(conv=>whnf)
 case refine_2=>rename_i hn;exact absurd he hn
 have hA:=BN p s c x h he hk1
 generalize p.rules.getD x.rule.toNat au=r at hA⊢
 by_cases hap:qe c r x
 ·refine aj.news 400 (E8 1001 1002 1003 1004) (xr (fQ c r x)) (.tup [uM (fQ c r x), .int .i64 0]) hA (aa) rfl (fun u M' hR=>?_) ?_
  ·rcases hR with ⟨_,hT⟩|⟨hn,_⟩
   ·exact OM u M' hT
   ·exact absurd hap hn
  conv=>whnf
  exact .inl ⟨hap,rfl,rfl,rfl,rfl,rfl⟩
 ·refine aj.news 400 [] [] (.tup [.agg j6, .int .i64 4]) hA (aa) rfl (fun u M' hR=>?_) ?_
  ·rcases hR with ⟨hy,_⟩|⟨_,rfl⟩
   ·exact absurd hy hap
   ·exact⟨trivial,aa⟩
  conv=>whnf
  exact .inr ⟨hap,rfl⟩
theorem Ii (p:ap) (s:aN) (c:aD) (x:bX) (hp:¬jZ p) (hw:dA c=false) (h1:du p s c=0) (he:qc p s c x false) (hk1:K1 p x) (ha:¬qe c (p.rules.getD x.rule.toNat au) x):ab Tryz.prog 253 [.agg (dg p), .agg (gr s), .agg (cy c), .agg (iA x)] (fun u=>u= .tup [.agg (cy cf), .int .i64 4]):=by
 refine ab.sub (R:=fun u=>u= .tup [.agg j6, .int .i64 4]) ?_ (by rintro _ rfl;exact⟨_,rfl,aa,rfl⟩)
 refine ab.of_spec 5 ((Ih p s c x hp hw h1 he hk1).mono fun u M hR=>?_)
 rcases hR with ⟨hy,_⟩|⟨_,rfl⟩
 ·exact absurd hy ha
 ·exact⟨rfl,rfl⟩
end Go.Proofs.YtekmminpfhacpaaGreatDoor
