import Derived.Test.YtekmminpfhacpaaGreatDoorM7
set_option linter.unusedVariables false
set_option linter.unusedSimpArgs false
namespace Go.Proofs.YtekmminpfhacpaaGreatDoor
set_option maxRecDepth 100000
set_option maxHeartbeats 16000000
def jj:List AV:=[.nilsl, .nilsl, .int .i64 0, .nilsl, .nilsl, .int .i64 0]
def NF (c:az) (r:bo) (x:bH):AV->aj->Prop:=fun u M=>(nV c r x/\OI 1001 1002 1003 1004 (eD c r x) 0 u M)\/(¬nV c r x/\u= .tup [.agg jj, .int .i64 4])
def OT (c:az) (v:Int):cp:=.box 61 [.row 1001 c.shape.length 1, .row 1002 c.states.length 1, .int .i64 c.correct, .row 1003 c.sent.length 1, .row 1004 c.faulty.length 1, .int .i64 v]
def OU:cp:=.box 61 jj
def OV (r:bo):cp:=.box 180 (eg r)
def OJ (c:az) (r:bo) (st se fa:List Int):List (Nat×cp):=[(4,OU),(6,OV r),(7,OT c c.value),(1001,b7 c.shape),(1002,b7 st),(1003,b7 se),(1004,b7 fa)]
theorem u7 {a b d e:Nat} {c:az} {n1 n2 n3 n4:Nat} {k v:Int} (h1:n1=c.shape.length) (h2:n2=c.states.length) (h3:n3=c.sent.length) (h4:n4=c.faulty.length) (h5:k=c.correct) (h6:v=c.value):
  AV.tup [.agg [.row a n1 1, .row b n2 1, .int .i64 k, .row d n3 1, .row e n4 1, .int .i64 v], .int .i64 0]= .tup [CF a b d e c, .int .i64 0]:=by
 subst h1;subst h2;subst h3;subst h4;subst h5;subst h6;rfl
theorem AJ {c:az} {r:bo} {x:bH} (h:x.process<c.correct):eD c r x=⟨c.shape,G' c r x,c.correct,bP c.sent r.send,c.faulty,if r.write=-1 then c.value else r.write⟩:=by
 unfold eD;rw[if_pos h,if_pos h]
theorem AK {c:az} {r:bo} {x:bH} (h:¬x.process<c.correct):eD c r x=⟨c.shape,G' c r x,c.correct,c.sent,bP c.faulty r.send,if r.write=-1 then c.value else r.write⟩:=by
 unfold eD;rw[if_neg h,if_neg h]
theorem FX (p:an) (s:aJ) (c:az) (x:bH) (h:dx p s c) (he:mL p s c x false) (hk0:(p.rules.getD x.rule.toNat ap).kind=1\/(p.rules.getD x.rule.toNat ap).kind=4) (hcor0:x.process<c.correct):am Tryz.prog 164 [.agg (pO p s c), .agg (dG x)] (aj.ofL []) (NF c (p.rules.getD x.rule.toNat ap) x):=by
 have hle:=bL h.big
 have hc:=bE h.wide
 obtain⟨hin,hen⟩:=he
 have hR:=cQ h.val (i:=x.rule.toNat) (by omega)
 have hB:=ii h.big (j:=x.rule.toNat) (by omega)
 have hsn:=h.vc.snl
 have hfa:=h.vc.fal
 have hsta:=h.vc.sta
 have hco:0<=c.correct/\c.correct<=8:=by
  have:=h.vc.cor
  have:=h.sz
  omega
 refine am.intro ae ag [] Tryz.func164 rfl (by decide) ?_
 conv=>whnf
 refine al rfl ?_
 conv=>whnf
 refine al rfl ?_
 conv=>whnf
 refine nI ?_
 generalize p.rules.getD x.rule.toNat ap=r at hen hR hB hk0
 have hcor:=hcor0
 have hbr:=i6 hB
 have hrd:=hR.read
 have hfit:=hR.fit
 unfold fR at hfit
 have hse:=hR.send
 conv=>whnf
 refine am.news 400 (zm 5 9 13 17) (rP c) (pS c) (rQ c h.wide) (aa) rfl FV ?_
 conv=>whnf
 refine nI ?_
 conv=>whnf
 refine aw _ rfl ?_
 conv=>whnf
 have hpl:x.process.toNat<c.states.length:=by omega
 have hpc:((x.process.toNat:Nat):Int)=x.process:=by omega
 have k14:=hk0
 have hst:c.states.set x.process.toNat r.dst=G' c r x:=FW (by simp) fun j hj=>by
  rw[cL]
  unfold LB
  by_cases e:x.process.toNat=j
  ·rw[if_pos ⟨e,by omega⟩,if_pos (by omega)]
  ·rw[if_neg (fun h=>e h.1),if_neg (by omega),if_neg (by omega),if_neg (by omega)]
 rw[hst]
 repeat' ((first|refine nI ?_|refine aI ?_|refine tI ?_|refine fI ?_|fail);conv=>whnf)
 repeat' ((first|refine nI ?_|refine aI ?_|refine tI ?_|refine fI ?_|fail);conv=>whnf)
 refine aQ.loopF ae ag (fun k:Nat=>k<=r.send.length/\∀j,j<k->(bP c.sent (r.send.take (j+1))).getD (r.send.getD j 0).toNat 0<=1048576) (fun k=>[(79, .int .i64 (k:Int))]) (fun k=>OJ c r (G' c r x) (bP c.sent (r.send.take k)) c.faulty) (fun k=>r.send.length-k) 0 ⟨by omega,fun j hj=>by omega⟩ ?_;conv=>whnf
 refine⟨sI,?_⟩
 rintro k ⟨hk,ha⟩
 conv=>whnf
 refine ah ?_ ?_<;>(intro g1;conv=>whnf)
 ·have hm:=hse k (by omega)
  have hb:=qh (r.send.take k) c.sent 1048576 (u5 h.sent.1) (r.send.getD k 0).toNat
  have htl:(r.send.take k).length<=60:=by rw[List.length_take];omega
  have hup:=rS (l:=c.sent) (ms:=r.send) (k:=k) (by omega)
  refine nI ?_
  rw[tN]
  conv=>whnf
  refine nI ?_
  conv=>whnf
  refine aI ?_
  conv=>whnf
  refine nI ?_
  conv=>whnf
  refine aw _ rfl ?_
  rw[<-hup]
  conv=>whnf
  refine nI ?_
  conv=>whnf
  refine ah ?_ ?_<;>(intro g2;conv=>whnf)
  ·exact .inr ⟨fun hap=>by unfold nV at hap;rw[if_pos hcor] at hap;have:=hap k (by omega);omega,rfl⟩
  ·repeat' ((first|refine nI ?_|refine aI ?_|refine tI ?_|refine fI ?_|fail);conv=>whnf)
   refine⟨k+1,sI,⟨by omega,fun j hj=>?_⟩,by dsimp only;omega⟩
   by_cases e:j=k
   ·subst e;omega
   ·exact ha j (by omega)
 ·obtain rfl:k=r.send.length:=by omega
  rw[List.take_length]
  have hap:nV c r x:=by unfold nV;rw[if_pos hcor];exact ha
  by_cases hwr:r.write=-1
  ·repeat' ((first|refine nI ?_|refine aI ?_|refine tI ?_|refine fI ?_|fail);conv=>whnf)
   refine .inl ⟨hap,?_⟩
   rw[AJ hcor,if_pos hwr]
   exact⟨u7 rfl (hZ _ _ _).symm (d7 _ _).symm rfl rfl rfl,rfl,rfl,rfl,rfl⟩
  ·repeat' ((first|refine nI ?_|refine aI ?_|refine tI ?_|refine fI ?_|fail);conv=>whnf)
   refine .inl ⟨hap,?_⟩
   rw[AJ hcor,if_neg hwr]
   exact⟨u7 rfl (hZ _ _ _).symm (d7 _ _).symm rfl rfl rfl,rfl,rfl,rfl,rfl⟩
theorem FY (p:an) (s:aJ) (c:az) (x:bH) (h:dx p s c) (he:mL p s c x false) (hk0:(p.rules.getD x.rule.toNat ap).kind=1\/(p.rules.getD x.rule.toNat ap).kind=4) (hcor0:¬x.process<c.correct):am Tryz.prog 164 [.agg (pO p s c), .agg (dG x)] (aj.ofL []) (NF c (p.rules.getD x.rule.toNat ap) x):=by
 have hle:=bL h.big
 have hc:=bE h.wide
 obtain⟨hin,hen⟩:=he
 have hR:=cQ h.val (i:=x.rule.toNat) (by omega)
 have hB:=ii h.big (j:=x.rule.toNat) (by omega)
 have hsn:=h.vc.snl
 have hfa:=h.vc.fal
 have hsta:=h.vc.sta
 have hco:0<=c.correct/\c.correct<=8:=by
  have:=h.vc.cor
  have:=h.sz
  omega
 refine am.intro ae ag [] Tryz.func164 rfl (by decide) ?_
 conv=>whnf
 refine al rfl ?_
 conv=>whnf
 refine al rfl ?_
 conv=>whnf
 refine nI ?_
 generalize p.rules.getD x.rule.toNat ap=r at hen hR hB hk0
 have hcor:=hcor0
 have hbr:=i6 hB
 have hrd:=hR.read
 have hfit:=hR.fit
 unfold fR at hfit
 have hse:=hR.send
 conv=>whnf
 refine am.news 400 (zm 5 9 13 17) (rP c) (pS c) (rQ c h.wide) (aa) rfl FV ?_
 conv=>whnf
 refine nI ?_
 conv=>whnf
 refine aw _ rfl ?_
 conv=>whnf
 have hpl:x.process.toNat<c.states.length:=by omega
 have hpc:((x.process.toNat:Nat):Int)=x.process:=by omega
 have k14:=hk0
 have hst:c.states.set x.process.toNat r.dst=G' c r x:=FW (by simp) fun j hj=>by
  rw[cL]
  unfold LB
  by_cases e:x.process.toNat=j
  ·rw[if_pos ⟨e,by omega⟩,if_pos (by omega)]
  ·rw[if_neg (fun h=>e h.1),if_neg (by omega),if_neg (by omega),if_neg (by omega)]
 rw[hst]
 repeat' ((first|refine nI ?_|refine aI ?_|refine tI ?_|refine fI ?_|fail);conv=>whnf)
 repeat' ((first|refine nI ?_|refine aI ?_|refine tI ?_|refine fI ?_|fail);conv=>whnf)
 refine aQ.loopF ae ag (fun k:Nat=>k<=r.send.length/\∀j,j<k->(bP c.faulty (r.send.take (j+1))).getD (r.send.getD j 0).toNat 0<=1048576) (fun k=>[(79, .int .i64 (k:Int))]) (fun k=>OJ c r (G' c r x) c.sent (bP c.faulty (r.send.take k))) (fun k=>r.send.length-k) 0 ⟨by omega,fun j hj=>by omega⟩ ?_;conv=>whnf
 refine⟨sI,?_⟩
 rintro k ⟨hk,ha⟩
 conv=>whnf
 refine ah ?_ ?_<;>(intro g1;conv=>whnf)
 ·have hm:=hse k (by omega)
  have hb:=qh (r.send.take k) c.faulty 1048576 (u5 h.sent.2) (r.send.getD k 0).toNat
  have htl:(r.send.take k).length<=60:=by rw[List.length_take];omega
  have hup:=rS (l:=c.faulty) (ms:=r.send) (k:=k) (by omega)
  refine nI ?_
  rw[tN]
  conv=>whnf
  refine nI ?_
  conv=>whnf
  refine aI ?_
  conv=>whnf
  refine nI ?_
  conv=>whnf
  refine aw _ rfl ?_
  rw[<-hup]
  conv=>whnf
  refine nI ?_
  conv=>whnf
  refine ah ?_ ?_<;>(intro g2;conv=>whnf)
  ·exact .inr ⟨fun hap=>by unfold nV at hap;rw[if_neg hcor] at hap;have:=hap k (by omega);omega,rfl⟩
  ·repeat' ((first|refine nI ?_|refine aI ?_|refine tI ?_|refine fI ?_|fail);conv=>whnf)
   refine⟨k+1,sI,⟨by omega,fun j hj=>?_⟩,by dsimp only;omega⟩
   by_cases e:j=k
   ·subst e;omega
   ·exact ha j (by omega)
 ·obtain rfl:k=r.send.length:=by omega
  rw[List.take_length]
  have hap:nV c r x:=by unfold nV;rw[if_neg hcor];exact ha
  by_cases hwr:r.write=-1
  ·repeat' ((first|refine nI ?_|refine aI ?_|refine tI ?_|refine fI ?_|fail);conv=>whnf)
   refine .inl ⟨hap,?_⟩
   rw[AK hcor,if_pos hwr]
   exact⟨u7 rfl (hZ _ _ _).symm rfl (d7 _ _).symm rfl rfl,rfl,rfl,rfl,rfl⟩
  ·repeat' ((first|refine nI ?_|refine aI ?_|refine tI ?_|refine fI ?_|fail);conv=>whnf)
   refine .inl ⟨hap,?_⟩
   rw[AK hcor,if_neg hwr]
   exact⟨u7 rfl (hZ _ _ _).symm rfl (d7 _ _).symm rfl rfl,rfl,rfl,rfl,rfl⟩
def K1 (p:an) (x:bH):Prop:=(p.rules.getD x.rule.toNat ap).kind=1/\(p.rules.getD x.rule.toNat ap).write=-1
theorem zn (p:an) (s:aJ) (c:az) (x:bH) (h:dx p s c) (he:mL p s c x false) (hk1:K1 p x):am Tryz.prog 164 [.agg (pO p s c), .agg (dG x)] (aj.ofL []) (NF c (p.rules.getD x.rule.toNat ap) x):=by
 by_cases hcor:x.process<c.correct
 ·exact FX p s c x h he (.inl hk1.1) hcor
 ·exact FY p s c x h he (.inl hk1.1) hcor
theorem FZ (p:an) (s:aJ) (c:az) (x:bH) (hp:¬dX p) (hw:bA c=false) (h1:cF p s c=0) (hn:¬mL p s c x false):ab Tryz.prog 253 [.agg (aR p), .agg (cq s), .agg (aW c), .agg (dG x)] (fun u=>u= .tup [.agg (aW aU), .int .i64 9]):=by
 refine ab.sub (R:=fun u=>u= .tup [.agg jj, .int .i64 9]) ?_ (by rintro _ rfl;exact⟨_,rfl,aa,rfl⟩)
 have h:=dx.of hp hw h1
 refine ab.intro ae ag Tryz.func253 rfl (by decide) ?_;(conv=>whnf)
 refine al rfl ?_
 conv=>whnf
 refine al rfl ?_
 conv=>whnf
 refine al rfl ?_
 conv=>whnf
 refine al rfl ?_
 conv=>whnf
 (refine oP (ke p s c hp hw) ?_;conv=>whnf)
 refine fI ?_
 conv=>whnf
 (refine oP (EE p s c hw) ?_;conv=>whnf)
 refine dC (lB p s c x false h) (fun _=>?_) (fun _=>?_)<;>(conv=>whnf)
 ·rename_i he;exact absurd he hn
 exact⟨rfl,rfl⟩
theorem F0 (p:an) (s:aJ) (c:az) (x:bH) (hp:¬dX p) (hw:bA c=false) (h1:cF p s c=0) (he:mL p s c x false) (hk1:K1 p x):am Tryz.prog 253 [.agg (aR p), .agg (cq s), .agg (aW c), .agg (dG x)] (aj.ofL []) (NF c (p.rules.getD x.rule.toNat ap) x):=by
 have h:=dx.of hp hw h1
 refine am.intro ae ag [] Tryz.func253 rfl (by decide) ?_
 conv=>whnf
 refine al rfl ?_
 conv=>whnf
 refine al rfl ?_
 conv=>whnf
 refine al rfl ?_
 conv=>whnf
 refine al rfl ?_
 conv=>whnf
 (refine oP (ke p s c hp hw) ?_;conv=>whnf)
 refine fI ?_
 conv=>whnf
 (refine oP (EE p s c hw) ?_;conv=>whnf)
 refine dC (lB p s c x false h) (fun _=>?_) (fun _=>?_)<;>(conv=>whnf)
 case refine_2=>rename_i hn;exact absurd he hn
 have hA:=zn p s c x h he hk1
 generalize p.rules.getD x.rule.toNat ap=r at hA⊢
 by_cases hap:nV c r x
 ·refine am.news 400 (zm 1001 1002 1003 1004) (rP (eD c r x)) (.tup [pS (eD c r x), .int .i64 0]) hA (aa) rfl (fun u M' hR=>?_) ?_
  ·rcases hR with ⟨_,hT⟩|⟨hn,_⟩
   ·exact LA u M' hT
   ·exact absurd hap hn
  conv=>whnf
  exact .inl ⟨hap,rfl,rfl,rfl,rfl,rfl⟩
 ·refine am.news 400 [] [] (.tup [.agg jj, .int .i64 4]) hA (aa) rfl (fun u M' hR=>?_) ?_
  ·rcases hR with ⟨hy,_⟩|⟨_,rfl⟩
   ·exact absurd hy hap
   ·exact⟨trivial,aa⟩
  conv=>whnf
  exact .inr ⟨hap,rfl⟩
theorem F1 (p:an) (s:aJ) (c:az) (x:bH) (hp:¬dX p) (hw:bA c=false) (h1:cF p s c=0) (he:mL p s c x false) (hk1:K1 p x) (ha:¬nV c (p.rules.getD x.rule.toNat ap) x):ab Tryz.prog 253 [.agg (aR p), .agg (cq s), .agg (aW c), .agg (dG x)] (fun u=>u= .tup [.agg (aW aU), .int .i64 4]):=by
 refine ab.sub (R:=fun u=>u= .tup [.agg jj, .int .i64 4]) ?_ (by rintro _ rfl;exact⟨_,rfl,aa,rfl⟩)
 refine ab.of_spec 5 ((F0 p s c x hp hw h1 he hk1).mono fun u M hR=>?_)
 rcases hR with ⟨hy,_⟩|⟨_,rfl⟩
 ·exact absurd hy ha
 ·exact⟨rfl,rfl⟩
end Go.Proofs.YtekmminpfhacpaaGreatDoor
