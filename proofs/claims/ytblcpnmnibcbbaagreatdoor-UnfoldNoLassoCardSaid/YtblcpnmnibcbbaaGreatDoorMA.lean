import Derived.Test.YtblcpnmnibcbbaaGreatDoorM7
import Derived.Test.YtblcpnmnibcbbaaGreatDoorG5
set_option linter.unusedVariables false
set_option linter.unusedSimpArgs false
namespace Go.Proofs.YtblcpnmnibcbbaaGreatDoor
set_option maxRecDepth 100000
set_option maxHeartbeats 16000000
noncomputable def oM (p:aq) (s:aB) (c:ap) (r i m:Nat):List be:=((List.range m).map fun k:Nat=>(⟨(r:Int),(i:Int),(k:Int)-1⟩:be)).filter fun x=>decide (cz p s c x false)
noncomputable def jX (p:aq) (s:aB) (c:ap) (r m:Nat):List be:=(List.range m).flatMap fun i=>oM p s c r i (c.states.length+1)
noncomputable def fA (p:aq) (s:aB) (c:ap) (m:Nat):List be:=(List.range m).flatMap fun r=>jX p s c r c.states.length
theorem Ch (p:aq) (s:aB) (c:ap) (r i m:Nat):oM p s c r i (m+1)=oM p s c r i m++if cz p s c ⟨r,i,(m:Int)-1⟩ false then[⟨r,i,(m:Int)-1⟩] else[]:=by
 unfold oM
 rw[List.range_succ,List.map_append,List.filter_append]
 congr 1
 by_cases h:cz p s c ⟨r,i,(m:Int)-1⟩ false
 ·rw[if_pos h];simp[h]
 ·rw[if_neg h];simp[h]
theorem te (p:aq) (s:aB) (c:ap) (r m:Nat):jX p s c r (m+1)=jX p s c r m++oM p s c r m (c.states.length+1):=by
 unfold jX;rw[List.range_succ,List.flatMap_append];simp
theorem wV (p:aq) (s:aB) (c:ap) (m:Nat):fA p s c (m+1)=fA p s c m++jX p s c m c.states.length:=by
 unfold fA;rw[List.range_succ,List.flatMap_append];simp
theorem tf (p:aq) (s:aB) (c:ap) (r i m:Nat):(oM p s c r i m).length<=m:=by
 unfold oM
 exact Nat.le_trans (List.length_filter_le _ _) (by simp)
theorem oN (p:aq) (s:aB) (c:ap) (r:Nat):∀m,(jX p s c r m).length<=m*(c.states.length+1)
 |0=>by simp[jX]
 |m+1=>by
  rw[te,List.length_append,Nat.add_mul,Nat.one_mul]
  have:=oN p s c r m
  have:=tf p s c r m (c.states.length+1)
  omega
theorem mK (p:aq) (s:aB) (c:ap):∀m,(fA p s c m).length<=m*(c.states.length*(c.states.length+1))
 |0=>by simp[fA]
 |m+1=>by
  rw[wV,List.length_append,Nat.add_mul,Nat.one_mul]
  have:=mK p s c m
  have:=oN p s c m c.states.length
  omega
def Gf (l:List be):bj:=.row 85 bm cF l
theorem Gg (p:aq) (s:aB) (c:ap):aa Tryz.prog 104 [.agg (gV p s c)] (fun u=>u= .fn 147 [.pd (gV p s c)]):=by
 refine aa.intro ab ac Tryz.func104 rfl (by decide) ?_;(conv=>whnf)
 refine am rfl ?_
 conv=>whnf
 exact⟨rfl,rfl⟩
theorem ql {lm:c9} {n:Nat} {M M':ah}:∀(L:List (Nat×bj)),(∀ℓ' B',(ℓ',B')∈L->∀ℓ,aQ lm ℓ'=some (.old ℓ)->M' ℓ=M ℓ)->dS lm n M L->dS lm n M' L
 |[],_,_=>trivial
 |(ℓ',B')::r,h,hm=>by
  obtain⟨h1,h2⟩:=hm
  refine⟨?_,ql r (fun a b hb=>h a b (List.mem_cons_of_mem _ hb)) h2⟩
  have hh:=h ℓ' B' List.mem_cons_self
  revert h1
  cases e:aQ lm ℓ' with
  |none=>exact id
  |some x=>cases x with
   |old ℓ=>intro h1;show jR lm n (M' ℓ) B';rw[hh ℓ e];exact h1
   |nil sz=>exact id
theorem vp.subE {D:List Nat} {L:List (Nat×bj)} (h:vp D L) (k:Nat) {M':ah} (hk:ah.ofL L k=none) (hM:∀ℓ,ℓ≠k->M' ℓ=ah.ofL L ℓ) {fr fr':List AV} (hf:g8 (lO L) 400 fr fr'):bE D fr M' fr' (ah.ofL L):=by
 refine bE.id_ 400 h.chk (ql L ?_ h.mem) hf
 intro ℓ' B' hb ℓ hl
 have h1:=eR hl
 unfold lO at h1
 obtain⟨q,hq,e⟩:=List.mem_map.1 h1
 simp only[Prod.mk.injEq,LM.old.injEq] at e
 refine hM ℓ fun e2=>?_
 have:=pa hq
 rw[e.2,e2] at this
 exact this hk
theorem HU (p:aq) (s:aB) (c:ap) (h:cK p s c) {C:jW} (hC:∀S S' F ρ0,ae.le S S'->C S F ρ0->C S' F ρ0) {D:List Nat} {X:Type} (I:List be->X->Prop) (J:X->Prop) (mem:X->List (Nat×bj)) (hG:∀x,vp D (mem x)) (hN:∀x,ah.ofL (mem x) 6=none) (v:Value)
  (hY:∀(pre:List be) (x:X) (st:be),pre.length<=1000000->I pre x->cz p s c st false->YS Tryz.prog C D v [.agg (cF st)] (ah.ofL (mem x)) (fun u M=>∃x',M=ah.ofL (mem x')/\((u= .bool true/\I (pre++[st]) x')\/(u= .bool false/\J x'))))
  (x0:X) (h0:I [] x0):n6 Tryz.prog C D 147 [.val v, .pd (gV p s c)] (ah.ofL (mem x0)) (fun _ M=>∃x',M=ah.ofL (mem x')/\(I (fA p s c p.rules.length) x'\/J x')):=by
 have hc:=aG h.wide
 have hle:=aC h.big
 refine n6.intro ab ac hC Tryz.func147 rfl (by decide) ?_
 conv=>whnf
 have hRl:p.rules.length<=30:=by omega
 have hbA:∀k1,k1<=p.rules.length->(fA p s c k1).length<=30*10100:=fun k1 hk=>by
  have h1:=mK p s c k1
  have h2:c.states.length*(c.states.length+1)<=100*101:=Nat.mul_le_mul (by omega) (by omega)
  have h3:k1*(c.states.length*(c.states.length+1))<=30*10100:=Nat.mul_le_mul (by omega) h2
  omega
 have hbI:∀k1 k2,k2<=c.states.length->(jX p s c k1 k2).length<=10100:=fun k1 k2 hk=>by
  have h1:=oN p s c k1 k2
  have h2:k2*(c.states.length+1)<=100*101:=Nat.mul_le_mul (by omega) (by omega)
  omega
 have hbP:=fun k1 k2 k3=>tf p s c k1 k2 k3
 refine nE.loopF ab ac hC (fun z:Nat×X=>z.1<=p.rules.length/\I (fA p s c z.1) z.2) (fun z=>[(11, .int .i64 (z.1:Int))]) (fun z=>mem z.2) (fun z=>p.rules.length-z.1) (0,x0) ⟨Nat.zero_le _,h0⟩ ?_
 conv=>whnf
 refine⟨(hG _).sub (ai),?_⟩
 rintro⟨k1,x1⟩ ⟨hk1,i1⟩
 dsimp only at hk1 i1⊢
 conv=>whnf
 refine ag ?_ ?_<;>(intro g1;conv=>whnf)
 ·have e0:fA p s c k1++jX p s c k1 0=fA p s c k1:=by simp[jX]
  refine nE.loopF ab ac hC (fun z:Nat×X=>z.1<=c.states.length/\I (fA p s c k1++jX p s c k1 z.1) z.2) (fun z=>[(18, .int .i64 (z.1:Int))]) (fun z=>mem z.2) (fun z=>c.states.length-z.1) (0,x1) ⟨Nat.zero_le _,by dsimp only;rw[e0];exact i1⟩ ?_
  conv=>whnf
  refine⟨(hG _).sub (ai),?_⟩
  rintro⟨k2,x2⟩ ⟨hk2,i2⟩
  dsimp only at hk2 i2⊢
  conv=>whnf
  refine ag ?_ ?_<;>(intro g2;conv=>whnf)
  ·have e1:fA p s c k1++jX p s c k1 k2++oM p s c k1 k2 0=fA p s c k1++jX p s c k1 k2:=by simp[oM]
   refine nE.loopF ab ac hC (fun z:Nat×X=>z.1<=c.states.length+1/\I (fA p s c k1++jX p s c k1 k2++oM p s c k1 k2 z.1) z.2) (fun z=>[(5, .int .i64 ((z.1:Int)-1))]) (fun z=>mem z.2) (fun z=>c.states.length+1-z.1) (0,x2) ⟨Nat.zero_le _,by dsimp only;rw[e1];exact i2⟩ ?_
   conv=>whnf
   refine⟨(hG _).sub (ai),?_⟩
   rintro⟨k3,x3⟩ ⟨hk3,i3⟩
   dsimp only at hk3 i3⊢
   conv=>whnf
   refine ag ?_ ?_<;>(intro g3;conv=>whnf)
   ·have hup:=Ch p s c k1 k2 k3
    have hl1:=hbA k1 hk1
    have hl2:=hbI k1 k2 hk2
    have hl3:=hbP k1 k2 k3
    have hN3:=hN x3
    rw[hN3]
    conv=>whnf
    refine dC (p8 p s c ⟨k1,k2,(k3:Int)-1⟩ false h) (fun _=>?_) (fun _=>?_)<;>(conv=>whnf)
    ·rename_i hen
     rw[if_pos hen] at hup
     refine JI (mem x3) rfl ?_
     conv=>whnf
     refine⟨(hG _).subE 6 (hN _) (fun ℓ hℓ=>by simp only[ah.set_ne _ _ hℓ]) (ai),(hY _ x3 ⟨k1,k2,(k3:Int)-1⟩ (by simp only[List.length_append];omega) i3 hen).mono ?_⟩
     have e3:fA p s c k1++jX p s c k1 k2++oM p s c k1 k2 k3++[⟨k1,k2,(k3:Int)-1⟩]=fA p s c k1++jX p s c k1 k2++oM p s c k1 k2 (k3+1):=by rw[hup,<-List.append_assoc]
     rw[e3]
     rintro u M ⟨x',rfl,⟨rfl,i4⟩|⟨rfl,j4⟩⟩
     ·conv=>whnf
      repeat' ((first|refine nI ?_|refine aI ?_|refine tI ?_|refine fI ?_|fail);conv=>whnf)
      exact⟨(k3+1,x'),(hG _).sub (ai),⟨by dsimp only;omega,i4⟩,by dsimp only;omega⟩
     ·conv=>whnf
      exact⟨x',rfl, .inr j4⟩
    ·rename_i hen
     rw[if_neg hen,List.append_nil] at hup
     repeat' ((first|refine nI ?_|refine aI ?_|refine tI ?_|refine fI ?_|fail);conv=>whnf)
     exact⟨(k3+1,x3),(hG _).subE 6 (hN _) (fun ℓ hℓ=>by simp only[ah.set_ne _ _ hℓ]) (ai),⟨by dsimp only;omega,by dsimp only;rw[hup];exact i3⟩,by dsimp only;omega⟩
   ·have ek:k3=c.states.length+1:=by omega
    have e2:fA p s c k1++jX p s c k1 k2++oM p s c k1 k2 k3=fA p s c k1++jX p s c k1 (k2+1):=by rw[ek,te,List.append_assoc]
    rw[e2] at i3
    repeat' ((first|refine nI ?_|refine aI ?_|refine tI ?_|refine fI ?_|fail);conv=>whnf)
    exact⟨(k2+1,x3),(hG _).sub (ai),⟨by dsimp only;omega,i3⟩,by dsimp only;omega⟩
  ·have ek:k2=c.states.length:=by omega
   have e2:fA p s c k1++jX p s c k1 k2=fA p s c (k1+1):=by rw[ek,wV]
   rw[e2] at i2
   repeat' ((first|refine nI ?_|refine aI ?_|refine tI ?_|refine fI ?_|fail);conv=>whnf)
   exact⟨(k1+1,x2),(hG _).sub (ai),⟨by dsimp only;omega,i2⟩,by dsimp only;omega⟩
 ·obtain rfl:k1=p.rules.length:=by omega
  exact⟨x1,rfl, .inl i1⟩
theorem Ci {p:aq} {s:aB} {c:ap} {x:be} {f:Bool} (h:cz p s c x f):-1<=x.partner/\x.partner<c.states.length:=by
 have h3:=h.2.2.2
 unfold qR at h3
 split at h3
 ·have h4:=h3.1
  unfold u5 at h4
  omega
 ·have h4:=h3.1
  omega
theorem tg {p:aq} {s:aB} {c:ap} {x:be}:x∈fA p s c p.rules.length↔cz p s c x false:=by
 unfold fA jX oM
 simp only[List.mem_flatMap,List.mem_range,List.mem_filter,List.mem_map,decide_eq_true_eq]
 constructor
 ·rintro⟨r,hr,i,hi,⟨k,hk,rfl⟩,h⟩;exact h
 ·intro h
  have hin:=h.1
  have hpt:=Ci h
  refine⟨x.rule.toNat,by omega,x.process.toNat,by omega,⟨(x.partner+1).toNat,by omega,?_⟩,h⟩
  obtain⟨a,b,d⟩:=x
  simp only at hin hpt⊢
  rw[be.mk.injEq]
  omega
theorem I2 {p:aq} {s:aB} {c:ap} (hp:¬bV p) (hw:aX c=false):(fA p s c p.rules.length).length<=303000:=by
 have hc:=aG hw
 have hle:=aC hp
 have h1:=mK p s c p.rules.length
 have h2:c.states.length*(c.states.length+1)<=100*101:=Nat.mul_le_mul (by omega) (by omega)
 have h3:p.rules.length*(c.states.length*(c.states.length+1))<=30*10100:=Nat.mul_le_mul (by omega) h2
 omega
theorem Cj {p:aq} {s:aB} {c:ap} {r i:Nat} (h:c.states.getD i 0≠(p.rules.getD r au).src) (m:Nat):oM p s c r i m=[]:=by
 unfold oM
 rw[List.filter_eq_nil_iff]
 intro x hx hd
 simp only[List.mem_map] at hx
 obtain⟨k,_,rfl⟩:=hx
 have he:=of_decide_eq_true hd
 exact h he.2.1
theorem I3 (p:aq) (s:aB) (c:ap) (h:cK p s c):aa Tryz.prog 61 [.agg (bc p), .agg (bW s), .agg (aY c)] (fun u=>u= .sl bm cF (fA p s c p.rules.length)):=by
 have hc:=aG h.wide
 have hle:=aC h.big
 have hbA:∀k1,k1<=p.rules.length->(fA p s c k1).length<=30*10100:=fun k1 hk=>by
  have h1:=mK p s c k1
  have h2:c.states.length*(c.states.length+1)<=100*101:=Nat.mul_le_mul (by omega) (by omega)
  have h3:k1*(c.states.length*(c.states.length+1))<=30*10100:=Nat.mul_le_mul (by omega) h2
  omega
 have hbI:∀k1 k2,k2<=c.states.length->(jX p s c k1 k2).length<=10100:=fun k1 k2 hk=>by
  have h1:=oN p s c k1 k2
  have h2:k2*(c.states.length+1)<=100*101:=Nat.mul_le_mul (by omega) (by omega)
  omega
 have hbP:=fun k1 k2 k3=>tf p s c k1 k2 k3
 refine aa.intro ab ac Tryz.func61 rfl (by decide) ?_;(conv=>whnf)
 refine am rfl ?_
 conv=>whnf
 refine am rfl ?_
 conv=>whnf
 refine am rfl ?_
 conv=>whnf
 refine aR.loopF ab ac (fun k1:Nat=>k1<=p.rules.length) (fun k1=>[(8, .int .i64 (k1:Int)),(7, .row 1000 (fA p s c k1).length 3)]) (fun k1=>[(1000,Gf (fA p s c k1))]) (fun k1=>p.rules.length-k1) 0 (Nat.zero_le _) ?_;conv=>whnf
 refine⟨bE.by_ [(1000, .nil 3)] _ 400 rfl (ai) (ai),?_⟩
 rintro k1 hk1
 conv=>whnf
 refine ag ?_ ?_<;>(intro g1;conv=>whnf)
 ·refine aR.loopF ab ac (fun k2:Nat=>k2<=c.states.length) (fun k2=>[(9, .int .i64 (k2:Int)),(7, .row 1000 (fA p s c k1++jX p s c k1 k2).length 3)]) (fun k2=>[(1000,Gf (fA p s c k1++jX p s c k1 k2))]) (fun k2=>c.states.length-k2) 0 (Nat.zero_le _) ?_;conv=>whnf
  have e0:fA p s c k1++jX p s c k1 0=fA p s c k1:=by simp[jX]
  refine⟨by rw[e0];exact sI,?_⟩
  rintro k2 hk2
  conv=>whnf
  refine ag ?_ ?_<;>(intro g2;conv=>whnf)
  ·refine dI ?_
   conv=>whnf
   refine nI ?_
   conv=>whnf
   refine nI ?_
   conv=>whnf
   rw[tN,tN]
   refine ag ?_ ?_<;>(intro g3;conv=>whnf)
   ·have e2:fA p s c k1++jX p s c k1 (k2+1)=fA p s c k1++jX p s c k1 k2:=by rw[te,Cj g3,List.append_nil]
    repeat' ((first|refine nI ?_|refine aI ?_|refine tI ?_|refine fI ?_|fail);conv=>whnf)
    refine⟨k2+1,?_,by omega,by dsimp only;omega⟩
    dsimp only
    rw[e2]
    exact sI
   refine aR.loopF ab ac (fun k3:Nat=>k3<=c.states.length+1) (fun k3=>[(10, .int .i64 ((k3:Int)-1)),(7, .row 1000 (fA p s c k1++jX p s c k1 k2++oM p s c k1 k2 k3).length 3)]) (fun k3=>[(1000,Gf (fA p s c k1++jX p s c k1 k2++oM p s c k1 k2 k3))]) (fun k3=>c.states.length+1-k3) 0 (Nat.zero_le _) ?_;conv=>whnf
   have e1:fA p s c k1++jX p s c k1 k2++oM p s c k1 k2 0=fA p s c k1++jX p s c k1 k2:=by simp[oM]
   refine⟨by rw[e1];exact sI,?_⟩
   rintro k3 hk3
   conv=>whnf
   refine ag ?_ ?_<;>(intro g4;conv=>whnf)
   ·have hup:=Ch p s c k1 k2 k3
    have hl1:=hbA k1 hk1
    have hl2:=hbI k1 k2 hk2
    have hl3:=hbP k1 k2 k3
    have hll:(fA p s c k1++jX p s c k1 k2++oM p s c k1 k2 k3).length<=1000000:=by simp only[List.length_append];omega
    refine dC (kC p s c ⟨k1,k2,(k3:Int)-1⟩ false h) (fun _=>?_) (fun _=>?_)<;>(conv=>whnf)
    ·rename_i hen
     rw[if_pos hen] at hup
     refine c8 bm cF [⟨k1,k2,(k3:Int)-1⟩] rfl ?_
     conv=>whnf
     refine eC [⟨k1,k2,(k3:Int)-1⟩] rfl lI ?_
     conv=>whnf
     repeat' ((first|refine nI ?_|refine aI ?_|refine tI ?_|refine fI ?_|fail);conv=>whnf)
     have e3:fA p s c k1++jX p s c k1 k2++oM p s c k1 k2 (k3+1)=fA p s c k1++jX p s c k1 k2++oM p s c k1 k2 k3++[⟨k1,k2,(k3:Int)-1⟩]:=by rw[hup,<-List.append_assoc]
     refine⟨k3+1,?_,by omega,by dsimp only;omega⟩
     dsimp only
     rw[e3]
     exact bE.by_ [(1000, .old 57)] _ 400 rfl (ai) (ai)
    ·rename_i hen
     rw[if_neg hen,List.append_nil] at hup
     repeat' ((first|refine nI ?_|refine aI ?_|refine tI ?_|refine fI ?_|fail);conv=>whnf)
     refine⟨k3+1,?_,by omega,by dsimp only;omega⟩
     dsimp only
     rw[hup]
     exact sI
   ·have ek:k3=c.states.length+1:=by omega
    have e2:fA p s c k1++jX p s c k1 (k2+1)=fA p s c k1++jX p s c k1 k2++oM p s c k1 k2 k3:=by rw[ek,te,List.append_assoc]
    repeat' ((first|refine nI ?_|refine aI ?_|refine tI ?_|refine fI ?_|fail);conv=>whnf)
    refine⟨k2+1,?_,by omega,by dsimp only;omega⟩
    dsimp only
    rw[e2]
    exact sI
  ·have ek:k2=c.states.length:=by omega
   have e2:fA p s c (k1+1)=fA p s c k1++jX p s c k1 k2:=by rw[ek,wV]
   repeat' ((first|refine nI ?_|refine aI ?_|refine tI ?_|refine fI ?_|fail);conv=>whnf)
   refine⟨k1+1,?_,by omega,by dsimp only;omega⟩
   dsimp only
   rw[e2]
   exact sI
 ·obtain rfl:k1=p.rules.length:=by omega
  exact⟨rfl,rfl⟩
end Go.Proofs.YtblcpnmnibcbbaaGreatDoor
