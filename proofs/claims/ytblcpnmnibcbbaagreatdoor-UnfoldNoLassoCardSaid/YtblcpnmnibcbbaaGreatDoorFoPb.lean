import Derived.Test.YtblcpnmnibcbbaaGreatDoorFoO
set_option linter.unusedVariables false
set_option linter.unusedSimpArgs false
namespace Go.Proofs.YtblcpnmnibcbbaaGreatDoor
set_option maxRecDepth 100000
set_option maxHeartbeats 16000000
theorem zh (p:aq) (s:aB) (c:ap) (x:be) (h:cK p s c) (he:cz p s c x false) (hk0:(p.rules.getD x.rule.toNat au).kind=2) (hwr0:(p.rules.getD x.rule.toNat au).write=-1) (hcor0:x.process<c.correct):aa Tryz.prog 62 [.agg (bc p), .agg (aY c), .agg (cF x)] (fun u=>u= .tup [.agg (aY (cp c (p.rules.getD x.rule.toNat au) x)), .bool (decide (bh c (p.rules.getD x.rule.toNat au) x))]):=by
 have hle:=aC h.big
 have hc:=aG h.wide
 obtain⟨hin,hen⟩:=he
 have hR:=aF h.val (i:=x.rule.toNat) (by omega)
 have hB:=aU h.big (j:=x.rule.toNat) (by omega)
 have hsn:=h.vc.snl
 have hfa:=h.vc.fal
 have hsta:=h.vc.sta
 refine aa.intro ab ac Tryz.func62 rfl (by decide) ?_;(conv=>whnf)
 refine am rfl ?_
 conv=>whnf
 refine am rfl ?_
 conv=>whnf
 refine am rfl ?_
 conv=>whnf
 refine dG (by decide+kernel) ?_
 conv=>whnf
 refine nI ?_
 generalize p.rules.getD x.rule.toNat au=r at hen hR hB hk0 hwr0⊢
 have hwr:=hwr0
 have hcor:=hcor0
 have hbr:=bo hB
 have hrd:=hR.read
 have hfit:=hR.fit
 unfold cb at hfit
 have hse:=hR.send
 conv=>whnf
 refine cu 400 (kD 1001 1002 1003 1004) (eW c) (eH c) (gj c h.wide) (ai) rfl rfl fN ?_
 conv=>whnf
 have hpl:x.process.toNat<c.states.length:=by omega
 have hpc:((x.process.toNat:Nat):Int)=x.process:=by omega
 have k25:r.kind=2\/r.kind=5:=.inl hk0
 obtain⟨g1,g2,g3,g4⟩:=gc hen k25
 have hst:(c.states.set x.partner.toNat r.pto).set x.process.toNat r.dst=fD c r x:=dv (by simp) fun j hj=>by
  rw[ax,ax,List.length_set]
  unfold lG
  by_cases e:x.process.toNat=j
  ·rw[if_pos ⟨e,by omega⟩,if_pos (by omega)]
  ·rw[if_neg (fun h=>e h.1),if_neg (show¬(j:Int)=x.process by omega)]
   by_cases e2:x.partner.toNat=j
   ·rw[if_pos ⟨e2,by omega⟩,if_pos ⟨k25,by omega⟩]
   ·rw[if_neg (fun h=>e2 h.1),if_neg (fun h=>e2 (by omega)),if_neg (by omega)]
 repeat' ((first|refine nI ?_|refine aI ?_|refine tI ?_|refine fI ?_|fail);conv=>whnf)
 refine ak _ rfl ?_
 conv=>whnf
 refine nI ?_
 rw[aK]
 dsimp only
 rw[bn]
 refine cL rfl rfl rfl rfl rfl ?_
 rw[hst]
 conv=>whnf
 refine fI ?_
 conv=>whnf
 refine aR.loopF ab ac (fun z:Nat×Bool=>z.1<=r.send.length/\(z.2=true↔∀j,j<z.1->(aL c.sent (r.send.take (j+1))).getD (r.send.getD j 0).toNat 0<=1048576)) (fun z=>[(12, .int .i64 (z.1:Int)),(11, .bool z.2)]) (fun z=>i5 c r c.value (fD c r x) (aL c.sent (r.send.take z.1)) c.faulty) (fun z=>r.send.length-z.1) (0,true) ⟨Nat.zero_le _,dc (fun j hj=>by dsimp only at hj;omega)⟩ ?_;conv=>whnf
 refine⟨sI,?_⟩
 rintro⟨k,b⟩ ⟨hk,hb⟩
 dsimp only at hk hb⊢
 cases b
 ·conv=>whnf
  refine ag ?_ ?_<;>(intro g1;conv=>whnf)
  ·have hm:=hse k (by omega)
   have hbb:=aM (r.send.take k) c.sent 1048576 (aN h.sent.1) (r.send.getD k 0).toNat
   have htl:(r.send.take k).length<=60:=by rw[List.length_take];omega
   have hup:=aE (l:=c.sent) (ms:=r.send) (k:=k) (by omega)
   refine fc hcor ?_
   conv=>whnf
   refine dI ?_
   conv=>whnf
   refine nI ?_
   rw[tN]
   conv=>whnf
   refine nI ?_
   conv=>whnf
   refine aI ?_
   conv=>whnf
   refine nI ?_
   conv=>whnf
   refine ak _ rfl ?_
   rw[<-hup]
   conv=>whnf
   refine dI ?_
   conv=>whnf
   repeat' ((first|refine nI ?_|refine aI ?_|refine tI ?_|refine fI ?_|fail);conv=>whnf)
   exact⟨(k+1,false),sI,⟨by dsimp only;omega,dz (fun hh=>dg hb (fun j hj=>hh j (by omega)))⟩,by dsimp only;omega⟩
  ·obtain rfl:k=r.send.length:=by omega
   rw[List.take_length]
   have hap:¬bh c r x:=by unfold bh;rw[if_pos hcor];exact dg hb
   refine⟨?_,rfl⟩
   rw[decide_eq_false hap,dh hcor,if_pos hwr]
   rfl
 ·conv=>whnf
  refine ag ?_ ?_<;>(intro g1;conv=>whnf)
  ·have hm:=hse k (by omega)
   have hbb:=aM (r.send.take k) c.sent 1048576 (aN h.sent.1) (r.send.getD k 0).toNat
   have htl:(r.send.take k).length<=60:=by rw[List.length_take];omega
   have hup:=aE (l:=c.sent) (ms:=r.send) (k:=k) (by omega)
   refine fc hcor ?_
   conv=>whnf
   refine dI ?_
   conv=>whnf
   refine nI ?_
   rw[tN]
   conv=>whnf
   refine nI ?_
   conv=>whnf
   refine aI ?_
   conv=>whnf
   refine nI ?_
   conv=>whnf
   refine ak _ rfl ?_
   rw[<-hup]
   conv=>whnf
   refine dI ?_
   conv=>whnf
   refine nI ?_
   rw[tN]
   conv=>whnf
   refine nI ?_
   conv=>whnf
   refine ag ?_ ?_<;>(intro g2;conv=>whnf)
   ·repeat' ((first|refine nI ?_|refine aI ?_|refine tI ?_|refine fI ?_|fail);conv=>whnf)
    exact⟨(k+1,true),sI,⟨by dsimp only;omega,dc (ep (hb.1 rfl) g2)⟩,by dsimp only;omega⟩
   ·repeat' ((first|refine nI ?_|refine aI ?_|refine tI ?_|refine fI ?_|fail);conv=>whnf)
    exact⟨(k+1,false),sI,⟨by dsimp only;omega,dz (fun hh=>g2 (hh k (by omega)))⟩,by dsimp only;omega⟩
  ·obtain rfl:k=r.send.length:=by omega
   rw[List.take_length]
   have hap:bh c r x:=by unfold bh;rw[if_pos hcor];exact hb.1 rfl
   refine⟨?_,rfl⟩
   rw[decide_eq_true hap,dh hcor,if_pos hwr]
   rfl
theorem zi (p:aq) (s:aB) (c:ap) (x:be) (h:cK p s c) (he:cz p s c x false) (hk0:(p.rules.getD x.rule.toNat au).kind=2) (hwr0:(p.rules.getD x.rule.toNat au).write=-1) (hcor0:¬x.process<c.correct):aa Tryz.prog 62 [.agg (bc p), .agg (aY c), .agg (cF x)] (fun u=>u= .tup [.agg (aY (cp c (p.rules.getD x.rule.toNat au) x)), .bool (decide (bh c (p.rules.getD x.rule.toNat au) x))]):=by
 have hle:=aC h.big
 have hc:=aG h.wide
 obtain⟨hin,hen⟩:=he
 have hR:=aF h.val (i:=x.rule.toNat) (by omega)
 have hB:=aU h.big (j:=x.rule.toNat) (by omega)
 have hsn:=h.vc.snl
 have hfa:=h.vc.fal
 have hsta:=h.vc.sta
 refine aa.intro ab ac Tryz.func62 rfl (by decide) ?_;(conv=>whnf)
 refine am rfl ?_
 conv=>whnf
 refine am rfl ?_
 conv=>whnf
 refine am rfl ?_
 conv=>whnf
 refine dG (by decide+kernel) ?_
 conv=>whnf
 refine nI ?_
 generalize p.rules.getD x.rule.toNat au=r at hen hR hB hk0 hwr0⊢
 have hwr:=hwr0
 have hcor:=hcor0
 have hbr:=bo hB
 have hrd:=hR.read
 have hfit:=hR.fit
 unfold cb at hfit
 have hse:=hR.send
 conv=>whnf
 refine cu 400 (kD 1001 1002 1003 1004) (eW c) (eH c) (gj c h.wide) (ai) rfl rfl fN ?_
 conv=>whnf
 have hpl:x.process.toNat<c.states.length:=by omega
 have hpc:((x.process.toNat:Nat):Int)=x.process:=by omega
 have k25:r.kind=2\/r.kind=5:=.inl hk0
 obtain⟨g1,g2,g3,g4⟩:=gc hen k25
 have hst:(c.states.set x.partner.toNat r.pto).set x.process.toNat r.dst=fD c r x:=dv (by simp) fun j hj=>by
  rw[ax,ax,List.length_set]
  unfold lG
  by_cases e:x.process.toNat=j
  ·rw[if_pos ⟨e,by omega⟩,if_pos (by omega)]
  ·rw[if_neg (fun h=>e h.1),if_neg (show¬(j:Int)=x.process by omega)]
   by_cases e2:x.partner.toNat=j
   ·rw[if_pos ⟨e2,by omega⟩,if_pos ⟨k25,by omega⟩]
   ·rw[if_neg (fun h=>e2 h.1),if_neg (fun h=>e2 (by omega)),if_neg (by omega)]
 repeat' ((first|refine nI ?_|refine aI ?_|refine tI ?_|refine fI ?_|fail);conv=>whnf)
 refine ak _ rfl ?_
 conv=>whnf
 refine nI ?_
 rw[aK]
 dsimp only
 rw[bn]
 refine cL rfl rfl rfl rfl rfl ?_
 rw[hst]
 conv=>whnf
 refine fI ?_
 conv=>whnf
 refine aR.loopF ab ac (fun z:Nat×Bool=>z.1<=r.send.length/\(z.2=true↔∀j,j<z.1->(aL c.faulty (r.send.take (j+1))).getD (r.send.getD j 0).toNat 0<=1048576)) (fun z=>[(12, .int .i64 (z.1:Int)),(11, .bool z.2)]) (fun z=>i5 c r c.value (fD c r x) c.sent (aL c.faulty (r.send.take z.1))) (fun z=>r.send.length-z.1) (0,true) ⟨Nat.zero_le _,dc (fun j hj=>by dsimp only at hj;omega)⟩ ?_;conv=>whnf
 refine⟨sI,?_⟩
 rintro⟨k,b⟩ ⟨hk,hb⟩
 dsimp only at hk hb⊢
 cases b
 ·conv=>whnf
  refine ag ?_ ?_<;>(intro g1;conv=>whnf)
  ·have hm:=hse k (by omega)
   have hbb:=aM (r.send.take k) c.faulty 1048576 (aN h.sent.2) (r.send.getD k 0).toNat
   have htl:(r.send.take k).length<=60:=by rw[List.length_take];omega
   have hup:=aE (l:=c.faulty) (ms:=r.send) (k:=k) (by omega)
   refine fE hcor ?_
   conv=>whnf
   refine dI ?_
   conv=>whnf
   refine nI ?_
   rw[tN]
   conv=>whnf
   refine nI ?_
   conv=>whnf
   refine aI ?_
   conv=>whnf
   refine nI ?_
   conv=>whnf
   refine ak _ rfl ?_
   rw[<-hup]
   conv=>whnf
   refine dI ?_
   conv=>whnf
   repeat' ((first|refine nI ?_|refine aI ?_|refine tI ?_|refine fI ?_|fail);conv=>whnf)
   exact⟨(k+1,false),sI,⟨by dsimp only;omega,dz (fun hh=>dg hb (fun j hj=>hh j (by omega)))⟩,by dsimp only;omega⟩
  ·obtain rfl:k=r.send.length:=by omega
   rw[List.take_length]
   have hap:¬bh c r x:=by unfold bh;rw[if_neg hcor];exact dg hb
   refine⟨?_,rfl⟩
   rw[decide_eq_false hap,di hcor,if_pos hwr]
   rfl
 ·conv=>whnf
  refine ag ?_ ?_<;>(intro g1;conv=>whnf)
  ·have hm:=hse k (by omega)
   have hbb:=aM (r.send.take k) c.faulty 1048576 (aN h.sent.2) (r.send.getD k 0).toNat
   have htl:(r.send.take k).length<=60:=by rw[List.length_take];omega
   have hup:=aE (l:=c.faulty) (ms:=r.send) (k:=k) (by omega)
   refine fE hcor ?_
   conv=>whnf
   refine dI ?_
   conv=>whnf
   refine nI ?_
   rw[tN]
   conv=>whnf
   refine nI ?_
   conv=>whnf
   refine aI ?_
   conv=>whnf
   refine nI ?_
   conv=>whnf
   refine ak _ rfl ?_
   rw[<-hup]
   conv=>whnf
   refine dI ?_
   conv=>whnf
   refine nI ?_
   rw[tN]
   conv=>whnf
   refine nI ?_
   conv=>whnf
   refine ag ?_ ?_<;>(intro g2;conv=>whnf)
   ·repeat' ((first|refine nI ?_|refine aI ?_|refine tI ?_|refine fI ?_|fail);conv=>whnf)
    exact⟨(k+1,true),sI,⟨by dsimp only;omega,dc (ep (hb.1 rfl) g2)⟩,by dsimp only;omega⟩
   ·repeat' ((first|refine nI ?_|refine aI ?_|refine tI ?_|refine fI ?_|fail);conv=>whnf)
    exact⟨(k+1,false),sI,⟨by dsimp only;omega,dz (fun hh=>g2 (hh k (by omega)))⟩,by dsimp only;omega⟩
  ·obtain rfl:k=r.send.length:=by omega
   rw[List.take_length]
   have hap:bh c r x:=by unfold bh;rw[if_neg hcor];exact hb.1 rfl
   refine⟨?_,rfl⟩
   rw[decide_eq_true hap,di hcor,if_pos hwr]
   rfl
theorem zj (p:aq) (s:aB) (c:ap) (x:be) (h:cK p s c) (he:cz p s c x false) (hk0:(p.rules.getD x.rule.toNat au).kind=2) (hwr0:(p.rules.getD x.rule.toNat au).write≠-1) (hcor0:x.process<c.correct):aa Tryz.prog 62 [.agg (bc p), .agg (aY c), .agg (cF x)] (fun u=>u= .tup [.agg (aY (cp c (p.rules.getD x.rule.toNat au) x)), .bool (decide (bh c (p.rules.getD x.rule.toNat au) x))]):=by
 have hle:=aC h.big
 have hc:=aG h.wide
 obtain⟨hin,hen⟩:=he
 have hR:=aF h.val (i:=x.rule.toNat) (by omega)
 have hB:=aU h.big (j:=x.rule.toNat) (by omega)
 have hsn:=h.vc.snl
 have hfa:=h.vc.fal
 have hsta:=h.vc.sta
 refine aa.intro ab ac Tryz.func62 rfl (by decide) ?_;(conv=>whnf)
 refine am rfl ?_
 conv=>whnf
 refine am rfl ?_
 conv=>whnf
 refine am rfl ?_
 conv=>whnf
 refine dG (by decide+kernel) ?_
 conv=>whnf
 refine nI ?_
 generalize p.rules.getD x.rule.toNat au=r at hen hR hB hk0 hwr0⊢
 have hwr:=hwr0
 have hcor:=hcor0
 have hbr:=bo hB
 have hrd:=hR.read
 have hfit:=hR.fit
 unfold cb at hfit
 have hse:=hR.send
 conv=>whnf
 refine cu 400 (kD 1001 1002 1003 1004) (eW c) (eH c) (gj c h.wide) (ai) rfl rfl fN ?_
 conv=>whnf
 have hpl:x.process.toNat<c.states.length:=by omega
 have hpc:((x.process.toNat:Nat):Int)=x.process:=by omega
 have k25:r.kind=2\/r.kind=5:=.inl hk0
 obtain⟨g1,g2,g3,g4⟩:=gc hen k25
 have hst:(c.states.set x.partner.toNat r.pto).set x.process.toNat r.dst=fD c r x:=dv (by simp) fun j hj=>by
  rw[ax,ax,List.length_set]
  unfold lG
  by_cases e:x.process.toNat=j
  ·rw[if_pos ⟨e,by omega⟩,if_pos (by omega)]
  ·rw[if_neg (fun h=>e h.1),if_neg (show¬(j:Int)=x.process by omega)]
   by_cases e2:x.partner.toNat=j
   ·rw[if_pos ⟨e2,by omega⟩,if_pos ⟨k25,by omega⟩]
   ·rw[if_neg (fun h=>e2 h.1),if_neg (fun h=>e2 (by omega)),if_neg (by omega)]
 repeat' ((first|refine nI ?_|refine aI ?_|refine tI ?_|refine fI ?_|fail);conv=>whnf)
 refine ak _ rfl ?_
 conv=>whnf
 refine nI ?_
 rw[aK]
 dsimp only
 rw[bn]
 refine cL rfl rfl rfl rfl rfl ?_
 rw[hst]
 conv=>whnf
 refine tI ?_
 conv=>whnf
 refine aR.loopF ab ac (fun z:Nat×Bool=>z.1<=r.send.length/\(z.2=true↔∀j,j<z.1->(aL c.sent (r.send.take (j+1))).getD (r.send.getD j 0).toNat 0<=1048576)) (fun z=>[(12, .int .i64 (z.1:Int)),(11, .bool z.2)]) (fun z=>i5 c r r.write (fD c r x) (aL c.sent (r.send.take z.1)) c.faulty) (fun z=>r.send.length-z.1) (0,true) ⟨Nat.zero_le _,dc (fun j hj=>by dsimp only at hj;omega)⟩ ?_;conv=>whnf
 refine⟨sI,?_⟩
 rintro⟨k,b⟩ ⟨hk,hb⟩
 dsimp only at hk hb⊢
 cases b
 ·conv=>whnf
  refine ag ?_ ?_<;>(intro g1;conv=>whnf)
  ·have hm:=hse k (by omega)
   have hbb:=aM (r.send.take k) c.sent 1048576 (aN h.sent.1) (r.send.getD k 0).toNat
   have htl:(r.send.take k).length<=60:=by rw[List.length_take];omega
   have hup:=aE (l:=c.sent) (ms:=r.send) (k:=k) (by omega)
   refine fc hcor ?_
   conv=>whnf
   refine dI ?_
   conv=>whnf
   refine nI ?_
   rw[tN]
   conv=>whnf
   refine nI ?_
   conv=>whnf
   refine aI ?_
   conv=>whnf
   refine nI ?_
   conv=>whnf
   refine ak _ rfl ?_
   rw[<-hup]
   conv=>whnf
   refine dI ?_
   conv=>whnf
   repeat' ((first|refine nI ?_|refine aI ?_|refine tI ?_|refine fI ?_|fail);conv=>whnf)
   exact⟨(k+1,false),sI,⟨by dsimp only;omega,dz (fun hh=>dg hb (fun j hj=>hh j (by omega)))⟩,by dsimp only;omega⟩
  ·obtain rfl:k=r.send.length:=by omega
   rw[List.take_length]
   have hap:¬bh c r x:=by unfold bh;rw[if_pos hcor];exact dg hb
   refine⟨?_,rfl⟩
   rw[decide_eq_false hap,dh hcor,if_neg hwr]
   rfl
 ·conv=>whnf
  refine ag ?_ ?_<;>(intro g1;conv=>whnf)
  ·have hm:=hse k (by omega)
   have hbb:=aM (r.send.take k) c.sent 1048576 (aN h.sent.1) (r.send.getD k 0).toNat
   have htl:(r.send.take k).length<=60:=by rw[List.length_take];omega
   have hup:=aE (l:=c.sent) (ms:=r.send) (k:=k) (by omega)
   refine fc hcor ?_
   conv=>whnf
   refine dI ?_
   conv=>whnf
   refine nI ?_
   rw[tN]
   conv=>whnf
   refine nI ?_
   conv=>whnf
   refine aI ?_
   conv=>whnf
   refine nI ?_
   conv=>whnf
   refine ak _ rfl ?_
   rw[<-hup]
   conv=>whnf
   refine dI ?_
   conv=>whnf
   refine nI ?_
   rw[tN]
   conv=>whnf
   refine nI ?_
   conv=>whnf
   refine ag ?_ ?_<;>(intro g2;conv=>whnf)
   ·repeat' ((first|refine nI ?_|refine aI ?_|refine tI ?_|refine fI ?_|fail);conv=>whnf)
    exact⟨(k+1,true),sI,⟨by dsimp only;omega,dc (ep (hb.1 rfl) g2)⟩,by dsimp only;omega⟩
   ·repeat' ((first|refine nI ?_|refine aI ?_|refine tI ?_|refine fI ?_|fail);conv=>whnf)
    exact⟨(k+1,false),sI,⟨by dsimp only;omega,dz (fun hh=>g2 (hh k (by omega)))⟩,by dsimp only;omega⟩
  ·obtain rfl:k=r.send.length:=by omega
   rw[List.take_length]
   have hap:bh c r x:=by unfold bh;rw[if_pos hcor];exact hb.1 rfl
   refine⟨?_,rfl⟩
   rw[decide_eq_true hap,dh hcor,if_neg hwr]
   rfl
theorem zk (p:aq) (s:aB) (c:ap) (x:be) (h:cK p s c) (he:cz p s c x false) (hk0:(p.rules.getD x.rule.toNat au).kind=2) (hwr0:(p.rules.getD x.rule.toNat au).write≠-1) (hcor0:¬x.process<c.correct):aa Tryz.prog 62 [.agg (bc p), .agg (aY c), .agg (cF x)] (fun u=>u= .tup [.agg (aY (cp c (p.rules.getD x.rule.toNat au) x)), .bool (decide (bh c (p.rules.getD x.rule.toNat au) x))]):=by
 have hle:=aC h.big
 have hc:=aG h.wide
 obtain⟨hin,hen⟩:=he
 have hR:=aF h.val (i:=x.rule.toNat) (by omega)
 have hB:=aU h.big (j:=x.rule.toNat) (by omega)
 have hsn:=h.vc.snl
 have hfa:=h.vc.fal
 have hsta:=h.vc.sta
 refine aa.intro ab ac Tryz.func62 rfl (by decide) ?_;(conv=>whnf)
 refine am rfl ?_
 conv=>whnf
 refine am rfl ?_
 conv=>whnf
 refine am rfl ?_
 conv=>whnf
 refine dG (by decide+kernel) ?_
 conv=>whnf
 refine nI ?_
 generalize p.rules.getD x.rule.toNat au=r at hen hR hB hk0 hwr0⊢
 have hwr:=hwr0
 have hcor:=hcor0
 have hbr:=bo hB
 have hrd:=hR.read
 have hfit:=hR.fit
 unfold cb at hfit
 have hse:=hR.send
 conv=>whnf
 refine cu 400 (kD 1001 1002 1003 1004) (eW c) (eH c) (gj c h.wide) (ai) rfl rfl fN ?_
 conv=>whnf
 have hpl:x.process.toNat<c.states.length:=by omega
 have hpc:((x.process.toNat:Nat):Int)=x.process:=by omega
 have k25:r.kind=2\/r.kind=5:=.inl hk0
 obtain⟨g1,g2,g3,g4⟩:=gc hen k25
 have hst:(c.states.set x.partner.toNat r.pto).set x.process.toNat r.dst=fD c r x:=dv (by simp) fun j hj=>by
  rw[ax,ax,List.length_set]
  unfold lG
  by_cases e:x.process.toNat=j
  ·rw[if_pos ⟨e,by omega⟩,if_pos (by omega)]
  ·rw[if_neg (fun h=>e h.1),if_neg (show¬(j:Int)=x.process by omega)]
   by_cases e2:x.partner.toNat=j
   ·rw[if_pos ⟨e2,by omega⟩,if_pos ⟨k25,by omega⟩]
   ·rw[if_neg (fun h=>e2 h.1),if_neg (fun h=>e2 (by omega)),if_neg (by omega)]
 repeat' ((first|refine nI ?_|refine aI ?_|refine tI ?_|refine fI ?_|fail);conv=>whnf)
 refine ak _ rfl ?_
 conv=>whnf
 refine nI ?_
 rw[aK]
 dsimp only
 rw[bn]
 refine cL rfl rfl rfl rfl rfl ?_
 rw[hst]
 conv=>whnf
 refine tI ?_
 conv=>whnf
 refine aR.loopF ab ac (fun z:Nat×Bool=>z.1<=r.send.length/\(z.2=true↔∀j,j<z.1->(aL c.faulty (r.send.take (j+1))).getD (r.send.getD j 0).toNat 0<=1048576)) (fun z=>[(12, .int .i64 (z.1:Int)),(11, .bool z.2)]) (fun z=>i5 c r r.write (fD c r x) c.sent (aL c.faulty (r.send.take z.1))) (fun z=>r.send.length-z.1) (0,true) ⟨Nat.zero_le _,dc (fun j hj=>by dsimp only at hj;omega)⟩ ?_;conv=>whnf
 refine⟨sI,?_⟩
 rintro⟨k,b⟩ ⟨hk,hb⟩
 dsimp only at hk hb⊢
 cases b
 ·conv=>whnf
  refine ag ?_ ?_<;>(intro g1;conv=>whnf)
  ·have hm:=hse k (by omega)
   have hbb:=aM (r.send.take k) c.faulty 1048576 (aN h.sent.2) (r.send.getD k 0).toNat
   have htl:(r.send.take k).length<=60:=by rw[List.length_take];omega
   have hup:=aE (l:=c.faulty) (ms:=r.send) (k:=k) (by omega)
   refine fE hcor ?_
   conv=>whnf
   refine dI ?_
   conv=>whnf
   refine nI ?_
   rw[tN]
   conv=>whnf
   refine nI ?_
   conv=>whnf
   refine aI ?_
   conv=>whnf
   refine nI ?_
   conv=>whnf
   refine ak _ rfl ?_
   rw[<-hup]
   conv=>whnf
   refine dI ?_
   conv=>whnf
   repeat' ((first|refine nI ?_|refine aI ?_|refine tI ?_|refine fI ?_|fail);conv=>whnf)
   exact⟨(k+1,false),sI,⟨by dsimp only;omega,dz (fun hh=>dg hb (fun j hj=>hh j (by omega)))⟩,by dsimp only;omega⟩
  ·obtain rfl:k=r.send.length:=by omega
   rw[List.take_length]
   have hap:¬bh c r x:=by unfold bh;rw[if_neg hcor];exact dg hb
   refine⟨?_,rfl⟩
   rw[decide_eq_false hap,di hcor,if_neg hwr]
   rfl
 ·conv=>whnf
  refine ag ?_ ?_<;>(intro g1;conv=>whnf)
  ·have hm:=hse k (by omega)
   have hbb:=aM (r.send.take k) c.faulty 1048576 (aN h.sent.2) (r.send.getD k 0).toNat
   have htl:(r.send.take k).length<=60:=by rw[List.length_take];omega
   have hup:=aE (l:=c.faulty) (ms:=r.send) (k:=k) (by omega)
   refine fE hcor ?_
   conv=>whnf
   refine dI ?_
   conv=>whnf
   refine nI ?_
   rw[tN]
   conv=>whnf
   refine nI ?_
   conv=>whnf
   refine aI ?_
   conv=>whnf
   refine nI ?_
   conv=>whnf
   refine ak _ rfl ?_
   rw[<-hup]
   conv=>whnf
   refine dI ?_
   conv=>whnf
   refine nI ?_
   rw[tN]
   conv=>whnf
   refine nI ?_
   conv=>whnf
   refine ag ?_ ?_<;>(intro g2;conv=>whnf)
   ·repeat' ((first|refine nI ?_|refine aI ?_|refine tI ?_|refine fI ?_|fail);conv=>whnf)
    exact⟨(k+1,true),sI,⟨by dsimp only;omega,dc (ep (hb.1 rfl) g2)⟩,by dsimp only;omega⟩
   ·repeat' ((first|refine nI ?_|refine aI ?_|refine tI ?_|refine fI ?_|fail);conv=>whnf)
    exact⟨(k+1,false),sI,⟨by dsimp only;omega,dz (fun hh=>g2 (hh k (by omega)))⟩,by dsimp only;omega⟩
  ·obtain rfl:k=r.send.length:=by omega
   rw[List.take_length]
   have hap:bh c r x:=by unfold bh;rw[if_neg hcor];exact hb.1 rfl
   refine⟨?_,rfl⟩
   rw[decide_eq_true hap,di hcor,if_neg hwr]
   rfl
end Go.Proofs.YtblcpnmnibcbbaaGreatDoor
