import Derived.Test.YtokjgegkhlkopaaGreatDoorFO
import Derived.Test.YtokjgegkhlkopaaGreatDoorM7
set_option linter.unusedVariables false
set_option linter.unusedSimpArgs false
namespace Go.Proofs.YtokjgegkhlkopaaGreatDoor
set_option maxRecDepth 100000
set_option maxHeartbeats 16000000
theorem zJ (p:ao) (s:az) (c:ap) (x:aQ) (h:c9 p s c) (he:cz p s c x false):ae Tryz.prog 54 [.agg (bf p), .agg (bg c), .agg (cH x)] (fun u=>u= .tup [.agg (bg (cb c (p.rules.getD x.rule.toNat au) x)), .bool (decide (bo c (p.rules.getD x.rule.toNat au) x))]):=by
 have hle:=aF h.big
 have hc:=aL h.wide
 obtain⟨hin,hen⟩:=he
 have hR:=aK h.val (i:=x.rule.toNat) (by omega)
 have hB:=aY h.big (j:=x.rule.toNat) (by omega)
 have hsn:=h.vc.snl
 have hfa:=h.vc.fal
 have hsta:=h.vc.sta
 refine ae.introW ab Tryz.func54 rfl (by decide) ?_
 dsimp only[mv,List.append,List.length,Nat.sub]
 refine aE.seqC ab ac ?_
 conv=>whnf
 refine am rfl ?_
 conv=>whnf
 refine am rfl ?_
 conv=>whnf
 refine am rfl ?_
 conv=>whnf
 refine aE.seqC ab ac ?_
 conv=>whnf
 refine eC (by decide+kernel) ?_
 conv=>whnf
 refine nI ?_
 generalize p.rules.getD x.rule.toNat au=r at hen hR hB⊢
 have hbr:=br hB
 have hrd:=hR.read
 have hfit:=hR.fit
 unfold cj at hfit
 have hse:=hR.send
 have hpl:x.process.toNat<c.states.length:=by omega
 have hpc:((x.process.toNat:Nat):Int)=x.process:=by omega
 have hpr:=fun k=>gV (r:=r) hen k
 conv=>whnf
 refine cD 400 (mU 1001 1002 1003 1004) (fT c) (fS c) (hZ c h.wide) (aa) rfl rfl gn ?_
 conv=>whnf
 refine aE.seqX (fun l:List Int=>l.length=c.states.length/\∀j,j<c.states.length->l.getD j 0=if r.kind=3 then r.response.getD (c.states.getD j 0).toNat 0 else c.states.getD j 0) (fun _=>(.top:: .top:: .top::(.pd (bf p))::(.pd (bg c))::(.pd (cH x))::(.ptr 6 0)::(.bool false)::(.ptr 8 0)::(.ptr 9 0)::T 124)) (fun l=>ai.ofL (jV c r c.value l c.sent c.faulty)) ab ac ?_ ?_
 ·conv=>whnf
  by_cases k3:r.kind=3
  case neg=>
   refine eX k3 ?_
   conv=>whnf
   exact⟨rfl,c.states,⟨rfl,fun j hj=>by rw[if_neg k3]⟩,sI⟩
  obtain⟨hrl,hri⟩:=hR.resp k3
  refine dH k3 ?_
  conv=>whnf
  refine aE.loopF ab ac (fun z:Nat×List Int=>z.1<=c.states.length/\z.2.length=c.states.length/\∀j,j<c.states.length->z.2.getD j 0=if j<z.1 then r.response.getD (c.states.getD j 0).toNat 0 else c.states.getD j 0) (fun z=>[(10, .int .i64 (z.1:Int))]) (fun z=>jV c r c.value z.2 c.sent c.faulty) (fun z=>c.states.length-z.1) (0,c.states) ⟨Nat.zero_le _,rfl,fun j hj=>by
   dsimp only
   rw[if_neg (by omega)]⟩ ?_;conv=>whnf
  refine⟨sI,?_⟩
  rintro⟨k,l⟩ ⟨h1,h2,h3⟩
  dsimp only at h1 h2 h3⊢
  conv=>whnf
  refine ah ?_ ?_<;>(intro g1;conv=>whnf)
  ·have hy:=hsta k (by omega)
   refine dR ?_
   conv=>whnf
   refine nI ?_
   rw[tN]
   conv=>whnf
   refine nI ?_
   conv=>whnf
   refine nI ?_
   conv=>whnf
   refine ak _ rfl ?_
   rw[tN]
   conv=>whnf
   repeat' ((first|refine nI ?_|refine aI ?_|refine tI ?_|refine fI ?_|fail);conv=>whnf)
   refine⟨(k+1,l.set k (r.response.getD (c.states.getD k 0).toNat 0)),sI,⟨by dsimp only;omega,by simpa using h2,fun j hj=>?_⟩,by dsimp only;omega⟩
   dsimp only
   rw[aB]
   by_cases e:k=j
   ·subst e;rw[if_pos ⟨rfl,by omega⟩,if_pos (by omega)]
   ·rw[if_neg (fun h=>e h.1),h3 j hj]
    by_cases e3:j<k
    ·rw[if_pos e3,if_pos (by omega)]
    ·rw[if_neg e3,if_neg (by omega)]
  ·exact⟨rfl,l,⟨h2,fun j hj=>by rw[h3 j hj,if_pos (by omega),if_pos k3]⟩,sI⟩
 rintro l ⟨h2,h3⟩
 refine aE.seqX (fun l:List Int=>l.length=c.states.length/\∀j,j<c.states.length->l.getD j 0=if(r.kind=2\/r.kind=5)/\(j:Int)=x.partner then r.pto else if r.kind=3 then r.response.getD (c.states.getD j 0).toNat 0 else c.states.getD j 0) (fun _=>(.top:: .top:: .top::(.pd (bf p))::(.pd (bg c))::(.pd (cH x))::(.ptr 6 0)::(.bool false)::(.ptr 8 0)::(.ptr 9 0)::T 124)) (fun l=>ai.ofL (jV c r c.value l c.sent c.faulty)) ab ac ?_ ?_
 ·conv=>whnf
  by_cases k25:r.kind=2\/r.kind=5
  ·obtain⟨g1,g2,g3,g4⟩:=hpr k25
   have hup:∀j,j<c.states.length->(l.set x.partner.toNat r.pto).getD j 0=if(r.kind=2\/r.kind=5)/\(j:Int)=x.partner then r.pto else if r.kind=3 then r.response.getD (c.states.getD j 0).toNat 0 else c.states.getD j 0:=fun j hj=>by
    rw[aB]
    by_cases e:x.partner.toNat=j
    ·rw[if_pos ⟨e,by omega⟩,if_pos ⟨k25,by omega⟩]
    ·rw[if_neg (fun h=>e h.1),if_neg (fun h=>e (by omega)),h3 j hj]
   rcases k25 with k|k
   all_goals
    repeat' (first|(refine tI ?_;conv=>whnf)|(refine fI ?_;conv=>whnf)|fail)
    refine nI ?_
    conv=>whnf
    refine ak _ rfl ?_
    conv=>whnf
    exact⟨rfl,l.set x.partner.toNat r.pto,⟨by simpa using h2,hup⟩,sI⟩
  ·repeat' (refine fI ?_;conv=>whnf)
   exact⟨rfl,l,⟨h2,fun j hj=>by rw[if_neg (fun h=>k25 h.1),h3 j hj]⟩,sI⟩
 clear h2 h3
 rintro l ⟨h2,h3⟩
 have hst:l.set x.process.toNat r.dst=f8 c r x:=dN (by simpa using h2) fun j hj=>by
  rw[aB]
  unfold mV
  by_cases e:x.process.toNat=j
  ·rw[if_pos ⟨e,by omega⟩,if_pos (by omega)]
  ·rw[if_neg (fun h=>e h.1),if_neg (show¬(j:Int)=x.process by omega),h3 j hj]
 refine aE.seqC ab ac ?_
 conv=>whnf
 refine nI ?_
 conv=>whnf
 refine ak _ rfl ?_
 rw[hst]
 conv=>whnf
 obtain⟨v,ev⟩:∃v,v=(if r.write=-1 then c.value else r.write):=⟨_,rfl⟩
 refine aE.seqS (fr2:=(.top:: .top:: .top::(.pd (bf p))::(.pd (bg c))::(.pd (cH x))::(.ptr 6 0)::(.bool false)::(.ptr 8 0)::(.ptr 9 0)::T 124)) (M2:=ai.ofL (jV c r v (f8 c r x) c.sent c.faulty)) ab ac ?_ ?_
 ·conv=>whnf
  by_cases hwr:r.write=-1
  ·have e:v=c.value:=by rw[ev,if_pos hwr]
   rw[e]
   refine fI ?_
   conv=>whnf
   exact⟨rfl,sI⟩
  ·have e:v=r.write:=by rw[ev,if_neg hwr]
   rw[e]
   refine dH hwr ?_
   conv=>whnf
   exact⟨rfl,sI⟩
 refine aZ ab ac _ _ _ _ ?_
 conv=>whnf
 by_cases hcor:x.process<c.correct
 ·refine aE.loopF ab ac (fun z:Nat×Bool=>z.1<=r.send.length/\(z.2=true↔∀j,j<z.1->(aO c.sent (r.send.take (j+1))).getD (r.send.getD j 0).toNat 0<=1048576)) (fun z=>[(12, .int .i64 (z.1:Int)),(11, .bool z.2)]) (fun z=>jV c r v (f8 c r x) (aO c.sent (r.send.take z.1)) c.faulty) (fun z=>r.send.length-z.1) (0,true) ⟨Nat.zero_le _,dq (fun j hj=>by dsimp only at hj;omega)⟩ ?_;conv=>whnf
  refine⟨sI,?_⟩
  rintro⟨k,b⟩ ⟨hk,hb⟩
  dsimp only at hk hb⊢
  conv=>whnf
  refine ah ?_ ?_<;>(intro g1;conv=>whnf)
  ·have hm:=hse k (by omega)
   have hbb:=aU (r.send.take k) c.sent 1048576 (aV h.sent.1) (r.send.getD k 0).toNat
   have htl:(r.send.take k).length<=60:=by rw[List.length_take];omega
   have hup:=aJ (l:=c.sent) (ms:=r.send) (k:=k) (by omega)
   refine dH hcor ?_
   conv=>whnf
   refine dI ?_
   conv=>whnf
   refine nI ?_
   rw[tN]
   conv=>whnf
   refine nI ?_
   conv=>whnf
   refine aI ?_
   conv=>whnf
   refine nI ?_
   conv=>whnf
   refine ak _ rfl ?_
   rw[<-hup]
   conv=>whnf
   refine dI ?_
   conv=>whnf
   cases b
   ·conv=>whnf
    repeat' ((first|refine nI ?_|refine aI ?_|refine tI ?_|refine fI ?_|fail);conv=>whnf)
    exact⟨(k+1,false),sI,⟨by dsimp only;omega,dZ (fun hh=>dw hb (fun j hj=>hh j (by omega)))⟩,by dsimp only;omega⟩
   ·conv=>whnf
    refine nI ?_
    rw[tN]
    conv=>whnf
    refine nI ?_
    conv=>whnf
    refine ah ?_ ?_<;>(intro g2;conv=>whnf)
    ·repeat' ((first|refine nI ?_|refine aI ?_|refine tI ?_|refine fI ?_|fail);conv=>whnf)
     exact⟨(k+1,true),sI,⟨by dsimp only;omega,dq (e7 (hb.1 rfl) g2)⟩,by dsimp only;omega⟩
    ·repeat' ((first|refine nI ?_|refine aI ?_|refine tI ?_|refine fI ?_|fail);conv=>whnf)
     exact⟨(k+1,false),sI,⟨by dsimp only;omega,dZ (fun hh=>g2 (hh k (by omega)))⟩,by dsimp only;omega⟩
  obtain rfl:k=r.send.length:=by omega
  rw[List.take_length]
  have hap:b=true↔bo c r x:=by unfold bo;rw[if_pos hcor];exact hb
  refine⟨?_,rfl⟩
  have hbd:decide (bo c r x)=b:=by
   cases b
   ·exact decide_eq_false (dw hap)
   ·exact decide_eq_true (hap.1 rfl)
  rw[hbd,dx hcor,<-ev]
  rfl
 ·refine aE.loopF ab ac (fun z:Nat×Bool=>z.1<=r.send.length/\(z.2=true↔∀j,j<z.1->(aO c.faulty (r.send.take (j+1))).getD (r.send.getD j 0).toNat 0<=1048576)) (fun z=>[(12, .int .i64 (z.1:Int)),(11, .bool z.2)]) (fun z=>jV c r v (f8 c r x) c.sent (aO c.faulty (r.send.take z.1))) (fun z=>r.send.length-z.1) (0,true) ⟨Nat.zero_le _,dq (fun j hj=>by dsimp only at hj;omega)⟩ ?_;conv=>whnf
  refine⟨sI,?_⟩
  rintro⟨k,b⟩ ⟨hk,hb⟩
  dsimp only at hk hb⊢
  conv=>whnf
  refine ah ?_ ?_<;>(intro g1;conv=>whnf)
  ·have hm:=hse k (by omega)
   have hbb:=aU (r.send.take k) c.faulty 1048576 (aV h.sent.2) (r.send.getD k 0).toNat
   have htl:(r.send.take k).length<=60:=by rw[List.length_take];omega
   have hup:=aJ (l:=c.faulty) (ms:=r.send) (k:=k) (by omega)
   refine eX hcor ?_
   conv=>whnf
   refine dI ?_
   conv=>whnf
   refine nI ?_
   rw[tN]
   conv=>whnf
   refine nI ?_
   conv=>whnf
   refine aI ?_
   conv=>whnf
   refine nI ?_
   conv=>whnf
   refine ak _ rfl ?_
   rw[<-hup]
   conv=>whnf
   refine dI ?_
   conv=>whnf
   cases b
   ·conv=>whnf
    repeat' ((first|refine nI ?_|refine aI ?_|refine tI ?_|refine fI ?_|fail);conv=>whnf)
    exact⟨(k+1,false),sI,⟨by dsimp only;omega,dZ (fun hh=>dw hb (fun j hj=>hh j (by omega)))⟩,by dsimp only;omega⟩
   ·conv=>whnf
    refine nI ?_
    rw[tN]
    conv=>whnf
    refine nI ?_
    conv=>whnf
    refine ah ?_ ?_<;>(intro g2;conv=>whnf)
    ·repeat' ((first|refine nI ?_|refine aI ?_|refine tI ?_|refine fI ?_|fail);conv=>whnf)
     exact⟨(k+1,true),sI,⟨by dsimp only;omega,dq (e7 (hb.1 rfl) g2)⟩,by dsimp only;omega⟩
    ·repeat' ((first|refine nI ?_|refine aI ?_|refine tI ?_|refine fI ?_|fail);conv=>whnf)
     exact⟨(k+1,false),sI,⟨by dsimp only;omega,dZ (fun hh=>g2 (hh k (by omega)))⟩,by dsimp only;omega⟩
  obtain rfl:k=r.send.length:=by omega
  rw[List.take_length]
  have hap:b=true↔bo c r x:=by unfold bo;rw[if_neg hcor];exact hb
  refine⟨?_,rfl⟩
  have hbd:decide (bo c r x)=b:=by
   cases b
   ·exact decide_eq_false (dw hap)
   ·exact decide_eq_true (hap.1 rfl)
  rw[hbd,dy hcor,<-ev]
  rfl
theorem E8 (p:ao) (s:az) (c:ap) (x:aQ) (hp:¬b9 p) (hw:bc c=false) (h1:kP p s c=0) (hn:¬cz p s c x false):ae Tryz.prog 60 [.agg (bf p), .agg (b7 s), .agg (bg c), .agg (cH x)] (fun u=>u= .tup [.agg (bg aC), .int .i64 9]):=by
 refine ae.sub (R:=fun u=>u= .tup [.agg EZ, .int .i64 9]) ?_ (by rintro _ rfl;exact⟨_,rfl,aa,rfl⟩)
 have h:=c9.of hp hw h1
 refine ae.intro ab ac Tryz.func60 rfl (by decide) ?_;(conv=>whnf)
 refine am rfl ?_
 conv=>whnf
 refine am rfl ?_
 conv=>whnf
 refine am rfl ?_
 conv=>whnf
 refine am rfl ?_
 conv=>whnf
 (refine oP (kD p s c hp hw) ?_;conv=>whnf)
 refine fI ?_
 conv=>whnf
 refine dC (lF p s c x false h) (fun _=>?_) (fun _=>?_)<;>(conv=>whnf)
 ·rename_i he;exact absurd he hn
 exact⟨rfl,rfl⟩
theorem E9 (p:ao) (s:az) (c:ap) (x:aQ) (hp:¬b9 p) (hw:bc c=false) (h1:kP p s c=0) (he:cz p s c x false) (ha:bo c (p.rules.getD x.rule.toNat au) x):ae Tryz.prog 60 [.agg (bf p), .agg (b7 s), .agg (bg c), .agg (cH x)] (fun u=>u= .tup [.agg (bg (cb c (p.rules.getD x.rule.toNat au) x)), .int .i64 0]):=by
 have h:=c9.of hp hw h1
 refine ae.intro ab ac Tryz.func60 rfl (by decide) ?_;(conv=>whnf)
 refine am rfl ?_
 conv=>whnf
 refine am rfl ?_
 conv=>whnf
 refine am rfl ?_
 conv=>whnf
 refine am rfl ?_
 conv=>whnf
 (refine oP (kD p s c hp hw) ?_;conv=>whnf)
 refine fI ?_
 conv=>whnf
 refine dC (lF p s c x false h) (fun _=>?_) (fun _=>?_)<;>(conv=>whnf)
 case refine_2=>rename_i hn;exact absurd he hn
 have hA:=zJ p s c x h he
 rw[decide_eq_true ha] at hA
 (refine oP (hA) ?_;conv=>whnf)
 exact⟨rfl,rfl⟩
theorem E' (p:ao) (s:az) (c:ap) (x:aQ) (hp:¬b9 p) (hw:bc c=false) (h1:kP p s c=0) (he:cz p s c x false) (ha:¬bo c (p.rules.getD x.rule.toNat au) x):ae Tryz.prog 60 [.agg (bf p), .agg (b7 s), .agg (bg c), .agg (cH x)] (fun u=>u= .tup [.agg (bg aC), .int .i64 4]):=by
 refine ae.sub (R:=fun u=>u= .tup [.agg EZ, .int .i64 4]) ?_ (by rintro _ rfl;exact⟨_,rfl,aa,rfl⟩)
 have h:=c9.of hp hw h1
 refine ae.intro ab ac Tryz.func60 rfl (by decide) ?_;(conv=>whnf)
 refine am rfl ?_
 conv=>whnf
 refine am rfl ?_
 conv=>whnf
 refine am rfl ?_
 conv=>whnf
 refine am rfl ?_
 conv=>whnf
 (refine oP (kD p s c hp hw) ?_;conv=>whnf)
 refine fI ?_
 conv=>whnf
 refine dC (lF p s c x false h) (fun _=>?_) (fun _=>?_)<;>(conv=>whnf)
 case refine_2=>rename_i hn;exact absurd he hn
 have hA:=zJ p s c x h he
 rw[decide_eq_false ha] at hA
 (refine oP (hA) ?_;conv=>whnf)
 exact⟨rfl,rfl⟩
end Go.Proofs.YtokjgegkhlkopaaGreatDoor
