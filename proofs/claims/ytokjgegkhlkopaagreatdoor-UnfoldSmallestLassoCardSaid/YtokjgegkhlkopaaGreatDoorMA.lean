import Derived.Test.YtokjgegkhlkopaaGreatDoorM7
import Derived.Test.YtokjgegkhlkopaaGreatDoorG5
set_option linter.unusedVariables false
set_option linter.unusedSimpArgs false
namespace Go.Proofs.YtokjgegkhlkopaaGreatDoor
set_option maxRecDepth 100000
set_option maxHeartbeats 16000000
noncomputable def qg (p:ao) (s:az) (c:ap) (r i m:Nat):List aQ:=((List.range m).map fun k:Nat=>(⟨(r:Int),(i:Int),(k:Int)-1⟩:aQ)).filter fun x=>decide (cz p s c x false)
noncomputable def kU (p:ao) (s:az) (c:ap) (r m:Nat):List aQ:=(List.range m).flatMap fun i=>qg p s c r i (c.states.length+1)
noncomputable def d9 (p:ao) (s:az) (c:ap) (m:Nat):List aQ:=(List.range m).flatMap fun r=>kU p s c r c.states.length
theorem Fl (p:ao) (s:az) (c:ap) (r i m:Nat):qg p s c r i (m+1)=qg p s c r i m++if cz p s c ⟨r,i,(m:Int)-1⟩ false then[⟨r,i,(m:Int)-1⟩] else[]:=by
 unfold qg
 rw[List.range_succ,List.map_append,List.filter_append]
 congr 1
 by_cases h:cz p s c ⟨r,i,(m:Int)-1⟩ false
 ·rw[if_pos h];simp[h]
 ·rw[if_neg h];simp[h]
theorem vM (p:ao) (s:az) (c:ap) (r m:Nat):kU p s c r (m+1)=kU p s c r m++qg p s c r m (c.states.length+1):=by
 unfold kU;rw[List.range_succ,List.flatMap_append];simp
theorem zN (p:ao) (s:az) (c:ap) (m:Nat):d9 p s c (m+1)=d9 p s c m++kU p s c m c.states.length:=by
 unfold d9;rw[List.range_succ,List.flatMap_append];simp
theorem vN (p:ao) (s:az) (c:ap) (r i m:Nat):(qg p s c r i m).length<=m:=by
 unfold qg
 exact Nat.le_trans (List.length_filter_le _ _) (by simp)
theorem qh (p:ao) (s:az) (c:ap) (r:Nat):∀m,(kU p s c r m).length<=m*(c.states.length+1)
 |0=>by simp[kU]
 |m+1=>by
  rw[vM,List.length_append,Nat.add_mul,Nat.one_mul]
  have:=qh p s c r m
  have:=vN p s c r m (c.states.length+1)
  omega
theorem ob (p:ao) (s:az) (c:ap):∀m,(d9 p s c m).length<=m*(c.states.length*(c.states.length+1))
 |0=>by simp[d9]
 |m+1=>by
  rw[zN,List.length_append,Nat.add_mul,Nat.one_mul]
  have:=ob p s c m
  have:=qh p s c m c.states.length
  omega
def CL (l:List aQ):aX:=.row 83 aR cH l
theorem Fm (p:ao) (s:az) (c:ap):ae Tryz.prog 86 [.agg (iP p s c)] (fun u=>u= .fn 124 [.pd (iP p s c)]):=by
 refine ae.intro ab ac Tryz.func86 rfl (by decide) ?_;(conv=>whnf)
 refine am rfl ?_
 conv=>whnf
 exact⟨rfl,rfl⟩
theorem r5 {lm:b8} {n:Nat} {M M':ai}:∀(L:List (Nat×aX)),(∀ℓ' B',(ℓ',B')∈L->∀ℓ,aA lm ℓ'=some (.old ℓ)->M' ℓ=M ℓ)->dK lm n M L->dK lm n M' L
 |[],_,_=>trivial
 |(ℓ',B')::r,h,hm=>by
  obtain⟨h1,h2⟩:=hm
  refine⟨?_,r5 r (fun a b hb=>h a b (List.mem_cons_of_mem _ hb)) h2⟩
  have hh:=h ℓ' B' List.mem_cons_self
  revert h1
  cases e:aA lm ℓ' with
  |none=>exact id
  |some x=>cases x with
   |old ℓ=>intro h1;show ie lm n (M' ℓ) B';rw[hh ℓ e];exact h1
   |nil sz=>exact id
theorem xT.subE {D:List Nat} {L:List (Nat×aX)} (h:xT D L) (k:Nat) {M':ai} (hk:ai.ofL L k=none) (hM:∀ℓ,ℓ≠k->M' ℓ=ai.ofL L ℓ) {fr fr':List AV} (hf:ge (oA L) 400 fr fr'):aM D fr M' fr' (ai.ofL L):=by
 refine aM.id_ 400 h.chk (r5 L ?_ h.mem) hf
 intro ℓ' B' hb ℓ hl
 have h1:=cN hl
 unfold oA at h1
 obtain⟨q,hq,e⟩:=List.mem_map.1 h1
 simp only[Prod.mk.injEq,LM.old.injEq] at e
 refine hM ℓ fun e2=>?_
 have:=qL hq
 rw[e.2,e2] at this
 exact this hk
theorem Jd (p:ao) (s:az) (c:ap) (h:c9 p s c) {C:kG} (hC:∀S S' F ρ0,ag.le S S'->C S F ρ0->C S' F ρ0) {D:List Nat} {X:Type} (I:List aQ->X->Prop) (J:X->Prop) (mem:X->List (Nat×aX)) (hG:∀x,xT D (mem x)) (hN:∀x,ai.ofL (mem x) 6=none) (v:Value)
  (hY:∀(pre:List aQ) (x:X) (st:aQ),pre.length<=1000000->I pre x->cz p s c st false->YS Tryz.prog C D v [.agg (cH st)] (ai.ofL (mem x)) (fun u M=>∃x',M=ai.ofL (mem x')/\((u= .bool true/\I (pre++[st]) x')\/(u= .bool false/\J x'))))
  (x0:X) (h0:I [] x0):pD Tryz.prog C D 124 [.val v, .pd (iP p s c)] (ai.ofL (mem x0)) (fun _ M=>∃x',M=ai.ofL (mem x')/\(I (d9 p s c p.rules.length) x'\/J x')):=by
 have hc:=aL h.wide
 have hle:=aF h.big
 refine pD.intro ab ac hC Tryz.func124 rfl (by decide) ?_
 conv=>whnf
 have hRl:p.rules.length<=30:=by omega
 have hbA:∀k1,k1<=p.rules.length->(d9 p s c k1).length<=30*10100:=fun k1 hk=>by
  have h1:=ob p s c k1
  have h2:c.states.length*(c.states.length+1)<=100*101:=Nat.mul_le_mul (by omega) (by omega)
  have h3:k1*(c.states.length*(c.states.length+1))<=30*10100:=Nat.mul_le_mul (by omega) h2
  omega
 have hbI:∀k1 k2,k2<=c.states.length->(kU p s c k1 k2).length<=10100:=fun k1 k2 hk=>by
  have h1:=qh p s c k1 k2
  have h2:k2*(c.states.length+1)<=100*101:=Nat.mul_le_mul (by omega) (by omega)
  omega
 have hbP:=fun k1 k2 k3=>vN p s c k1 k2 k3
 refine fm.loopF ab ac hC (fun z:Nat×X=>z.1<=p.rules.length/\I (d9 p s c z.1) z.2) (fun z=>[(11, .int .i64 (z.1:Int))]) (fun z=>mem z.2) (fun z=>p.rules.length-z.1) (0,x0) ⟨Nat.zero_le _,h0⟩ ?_
 conv=>whnf
 refine⟨(hG _).sub (aa),?_⟩
 rintro⟨k1,x1⟩ ⟨hk1,i1⟩
 dsimp only at hk1 i1⊢
 conv=>whnf
 refine ah ?_ ?_<;>(intro g1;conv=>whnf)
 ·have e0:d9 p s c k1++kU p s c k1 0=d9 p s c k1:=by simp[kU]
  refine fm.loopF ab ac hC (fun z:Nat×X=>z.1<=c.states.length/\I (d9 p s c k1++kU p s c k1 z.1) z.2) (fun z=>[(18, .int .i64 (z.1:Int))]) (fun z=>mem z.2) (fun z=>c.states.length-z.1) (0,x1) ⟨Nat.zero_le _,by dsimp only;rw[e0];exact i1⟩ ?_
  conv=>whnf
  refine⟨(hG _).sub (aa),?_⟩
  rintro⟨k2,x2⟩ ⟨hk2,i2⟩
  dsimp only at hk2 i2⊢
  conv=>whnf
  refine ah ?_ ?_<;>(intro g2;conv=>whnf)
  ·have e1:d9 p s c k1++kU p s c k1 k2++qg p s c k1 k2 0=d9 p s c k1++kU p s c k1 k2:=by simp[qg]
   refine fm.loopF ab ac hC (fun z:Nat×X=>z.1<=c.states.length+1/\I (d9 p s c k1++kU p s c k1 k2++qg p s c k1 k2 z.1) z.2) (fun z=>[(5, .int .i64 ((z.1:Int)-1))]) (fun z=>mem z.2) (fun z=>c.states.length+1-z.1) (0,x2) ⟨Nat.zero_le _,by dsimp only;rw[e1];exact i2⟩ ?_
   conv=>whnf
   refine⟨(hG _).sub (aa),?_⟩
   rintro⟨k3,x3⟩ ⟨hk3,i3⟩
   dsimp only at hk3 i3⊢
   conv=>whnf
   refine ah ?_ ?_<;>(intro g3;conv=>whnf)
   ·have hup:=Fl p s c k1 k2 k3
    have hl1:=hbA k1 hk1
    have hl2:=hbI k1 k2 hk2
    have hl3:=hbP k1 k2 k3
    have hN3:=hN x3
    rw[hN3]
    conv=>whnf
    refine dC (xI p s c ⟨k1,k2,(k3:Int)-1⟩ false h) (fun _=>?_) (fun _=>?_)<;>(conv=>whnf)
    ·rename_i hen
     rw[if_pos hen] at hup
     refine OK (mem x3) rfl ?_
     conv=>whnf
     refine⟨(hG _).subE 6 (hN _) (fun ℓ hℓ=>by simp only[ai.set_ne _ _ hℓ]) (aa),(hY _ x3 ⟨k1,k2,(k3:Int)-1⟩ (by simp only[List.length_append];omega) i3 hen).mono ?_⟩
     have e3:d9 p s c k1++kU p s c k1 k2++qg p s c k1 k2 k3++[⟨k1,k2,(k3:Int)-1⟩]=d9 p s c k1++kU p s c k1 k2++qg p s c k1 k2 (k3+1):=by rw[hup,<-List.append_assoc]
     rw[e3]
     rintro u M ⟨x',rfl,⟨rfl,i4⟩|⟨rfl,j4⟩⟩
     ·conv=>whnf
      repeat' ((first|refine nI ?_|refine aI ?_|refine tI ?_|refine fI ?_|fail);conv=>whnf)
      exact⟨(k3+1,x'),(hG _).sub (aa),⟨by dsimp only;omega,i4⟩,by dsimp only;omega⟩
     ·conv=>whnf
      exact⟨x',rfl, .inr j4⟩
    ·rename_i hen
     rw[if_neg hen,List.append_nil] at hup
     repeat' ((first|refine nI ?_|refine aI ?_|refine tI ?_|refine fI ?_|fail);conv=>whnf)
     exact⟨(k3+1,x3),(hG _).subE 6 (hN _) (fun ℓ hℓ=>by simp only[ai.set_ne _ _ hℓ]) (aa),⟨by dsimp only;omega,by dsimp only;rw[hup];exact i3⟩,by dsimp only;omega⟩
   ·have ek:k3=c.states.length+1:=by omega
    have e2:d9 p s c k1++kU p s c k1 k2++qg p s c k1 k2 k3=d9 p s c k1++kU p s c k1 (k2+1):=by rw[ek,vM,List.append_assoc]
    rw[e2] at i3
    repeat' ((first|refine nI ?_|refine aI ?_|refine tI ?_|refine fI ?_|fail);conv=>whnf)
    exact⟨(k2+1,x3),(hG _).sub (aa),⟨by dsimp only;omega,i3⟩,by dsimp only;omega⟩
  ·have ek:k2=c.states.length:=by omega
   have e2:d9 p s c k1++kU p s c k1 k2=d9 p s c (k1+1):=by rw[ek,zN]
   rw[e2] at i2
   repeat' ((first|refine nI ?_|refine aI ?_|refine tI ?_|refine fI ?_|fail);conv=>whnf)
   exact⟨(k1+1,x2),(hG _).sub (aa),⟨by dsimp only;omega,i2⟩,by dsimp only;omega⟩
 ·obtain rfl:k1=p.rules.length:=by omega
  exact⟨x1,rfl, .inl i1⟩
theorem Fo {p:ao} {s:az} {c:ap} {x:aQ} {f:Bool} (h:cz p s c x f):-1<=x.partner/\x.partner<c.states.length:=by
 have h3:=h.2.2.2
 unfold tb at h3
 split at h3
 ·have h4:=h3.1
  unfold xH at h4
  omega
 ·have h4:=h3.1
  omega
theorem kI {p:ao} {s:az} {c:ap} {x:aQ}:x∈d9 p s c p.rules.length↔cz p s c x false:=by
 unfold d9 kU qg
 simp only[List.mem_flatMap,List.mem_range,List.mem_filter,List.mem_map,decide_eq_true_eq]
 constructor
 ·rintro⟨r,hr,i,hi,⟨k,hk,rfl⟩,h⟩;exact h
 ·intro h
  have hin:=h.1
  have hpt:=Fo h
  refine⟨x.rule.toNat,by omega,x.process.toNat,by omega,⟨(x.partner+1).toNat,by omega,?_⟩,h⟩
  obtain⟨a,b,d⟩:=x
  simp only at hin hpt⊢
  rw[aQ.mk.injEq]
  omega
theorem Fp {p:ao} {s:az} {c:ap} {r i:Nat} (h:c.states.getD i 0≠(p.rules.getD r au).src) (m:Nat):qg p s c r i m=[]:=by
 unfold qg
 rw[List.filter_eq_nil_iff]
 intro x hx hd
 simp only[List.mem_map] at hx
 obtain⟨k,_,rfl⟩:=hx
 have he:=of_decide_eq_true hd
 exact h he.2.1
theorem KA (p:ao) (s:az) (c:ap) (h:c9 p s c):ae Tryz.prog 53 [.agg (bf p), .agg (b7 s), .agg (bg c)] (fun u=>u= .sl aR cH (d9 p s c p.rules.length)):=by
 have hc:=aL h.wide
 have hle:=aF h.big
 have hbA:∀k1,k1<=p.rules.length->(d9 p s c k1).length<=30*10100:=fun k1 hk=>by
  have h1:=ob p s c k1
  have h2:c.states.length*(c.states.length+1)<=100*101:=Nat.mul_le_mul (by omega) (by omega)
  have h3:k1*(c.states.length*(c.states.length+1))<=30*10100:=Nat.mul_le_mul (by omega) h2
  omega
 have hbI:∀k1 k2,k2<=c.states.length->(kU p s c k1 k2).length<=10100:=fun k1 k2 hk=>by
  have h1:=qh p s c k1 k2
  have h2:k2*(c.states.length+1)<=100*101:=Nat.mul_le_mul (by omega) (by omega)
  omega
 have hbP:=fun k1 k2 k3=>vN p s c k1 k2 k3
 refine ae.intro ab ac Tryz.func53 rfl (by decide) ?_;(conv=>whnf)
 refine am rfl ?_
 conv=>whnf
 refine am rfl ?_
 conv=>whnf
 refine am rfl ?_
 conv=>whnf
 refine aE.loopF ab ac (fun k1:Nat=>k1<=p.rules.length) (fun k1=>[(8, .int .i64 (k1:Int)),(7, .row 1000 (d9 p s c k1).length 3)]) (fun k1=>[(1000,CL (d9 p s c k1))]) (fun k1=>p.rules.length-k1) 0 (Nat.zero_le _) ?_;conv=>whnf
 refine⟨aM.by_ [(1000, .nil 3)] _ 400 rfl (aa) (aa),?_⟩
 rintro k1 hk1
 conv=>whnf
 refine ah ?_ ?_<;>(intro g1;conv=>whnf)
 ·refine aE.loopF ab ac (fun k2:Nat=>k2<=c.states.length) (fun k2=>[(9, .int .i64 (k2:Int)),(7, .row 1000 (d9 p s c k1++kU p s c k1 k2).length 3)]) (fun k2=>[(1000,CL (d9 p s c k1++kU p s c k1 k2))]) (fun k2=>c.states.length-k2) 0 (Nat.zero_le _) ?_;conv=>whnf
  have e0:d9 p s c k1++kU p s c k1 0=d9 p s c k1:=by simp[kU]
  refine⟨by rw[e0];exact sI,?_⟩
  rintro k2 hk2
  conv=>whnf
  refine ah ?_ ?_<;>(intro g2;conv=>whnf)
  ·refine dI ?_
   conv=>whnf
   refine nI ?_
   conv=>whnf
   refine nI ?_
   conv=>whnf
   rw[tN,tN]
   refine ah ?_ ?_<;>(intro g3;conv=>whnf)
   ·have e2:d9 p s c k1++kU p s c k1 (k2+1)=d9 p s c k1++kU p s c k1 k2:=by rw[vM,Fp g3,List.append_nil]
    repeat' ((first|refine nI ?_|refine aI ?_|refine tI ?_|refine fI ?_|fail);conv=>whnf)
    refine⟨k2+1,?_,by omega,by dsimp only;omega⟩
    dsimp only
    rw[e2]
    exact sI
   refine aE.loopF ab ac (fun k3:Nat=>k3<=c.states.length+1) (fun k3=>[(10, .int .i64 ((k3:Int)-1)),(7, .row 1000 (d9 p s c k1++kU p s c k1 k2++qg p s c k1 k2 k3).length 3)]) (fun k3=>[(1000,CL (d9 p s c k1++kU p s c k1 k2++qg p s c k1 k2 k3))]) (fun k3=>c.states.length+1-k3) 0 (Nat.zero_le _) ?_;conv=>whnf
   have e1:d9 p s c k1++kU p s c k1 k2++qg p s c k1 k2 0=d9 p s c k1++kU p s c k1 k2:=by simp[qg]
   refine⟨by rw[e1];exact sI,?_⟩
   rintro k3 hk3
   conv=>whnf
   refine ah ?_ ?_<;>(intro g4;conv=>whnf)
   ·have hup:=Fl p s c k1 k2 k3
    have hl1:=hbA k1 hk1
    have hl2:=hbI k1 k2 hk2
    have hl3:=hbP k1 k2 k3
    have hll:(d9 p s c k1++kU p s c k1 k2++qg p s c k1 k2 k3).length<=1000000:=by simp only[List.length_append];omega
    refine dC (lF p s c ⟨k1,k2,(k3:Int)-1⟩ false h) (fun _=>?_) (fun _=>?_)<;>(conv=>whnf)
    ·rename_i hen
     rw[if_pos hen] at hup
     refine cA aR cH [⟨k1,k2,(k3:Int)-1⟩] rfl ?_
     conv=>whnf
     refine cB [⟨k1,k2,(k3:Int)-1⟩] rfl lI ?_
     conv=>whnf
     repeat' ((first|refine nI ?_|refine aI ?_|refine tI ?_|refine fI ?_|fail);conv=>whnf)
     have e3:d9 p s c k1++kU p s c k1 k2++qg p s c k1 k2 (k3+1)=d9 p s c k1++kU p s c k1 k2++qg p s c k1 k2 k3++[⟨k1,k2,(k3:Int)-1⟩]:=by rw[hup,<-List.append_assoc]
     refine⟨k3+1,?_,by omega,by dsimp only;omega⟩
     dsimp only
     rw[e3]
     exact aM.by_ [(1000, .old 57)] _ 400 rfl (aa) (aa)
    ·rename_i hen
     rw[if_neg hen,List.append_nil] at hup
     repeat' ((first|refine nI ?_|refine aI ?_|refine tI ?_|refine fI ?_|fail);conv=>whnf)
     refine⟨k3+1,?_,by omega,by dsimp only;omega⟩
     dsimp only
     rw[hup]
     exact sI
   ·have ek:k3=c.states.length+1:=by omega
    have e2:d9 p s c k1++kU p s c k1 (k2+1)=d9 p s c k1++kU p s c k1 k2++qg p s c k1 k2 k3:=by rw[ek,vM,List.append_assoc]
    repeat' ((first|refine nI ?_|refine aI ?_|refine tI ?_|refine fI ?_|fail);conv=>whnf)
    refine⟨k2+1,?_,by omega,by dsimp only;omega⟩
    dsimp only
    rw[e2]
    exact sI
  ·have ek:k2=c.states.length:=by omega
   have e2:d9 p s c (k1+1)=d9 p s c k1++kU p s c k1 k2:=by rw[ek,zN]
   repeat' ((first|refine nI ?_|refine aI ?_|refine tI ?_|refine fI ?_|fail);conv=>whnf)
   refine⟨k1+1,?_,by omega,by dsimp only;omega⟩
   dsimp only
   rw[e2]
   exact sI
 ·obtain rfl:k1=p.rules.length:=by omega
  exact⟨rfl,rfl⟩
end Go.Proofs.YtokjgegkhlkopaaGreatDoor
