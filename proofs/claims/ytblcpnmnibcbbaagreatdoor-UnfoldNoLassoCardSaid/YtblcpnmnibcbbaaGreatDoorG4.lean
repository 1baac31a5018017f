import Derived.Test.YtblcpnmnibcbbaaGreatDoorG3
import Derived.Scope
set_option linter.unusedVariables false
set_option linter.unusedSimpArgs false
namespace Go.Proofs.YtblcpnmnibcbbaaGreatDoor
section
inductive Hi
 |normal
 |exit (id:Nat)
 |ret
def yP:Exit->Option Hi
 | .normal=>some .normal
 | .exit id=>some (.exit id)
 | .ret=>some .ret
 |_=>none
abbrev cq:=Hi->List AV->ah->Prop
def gg (ρ:aw) (D:List Nat):Prop:=∀ℓ b,ρ ℓ=some b->ℓ∈D
structure aR (P:Program) (D:List Nat) (c:Code) (fr:List AV) (M:ah) (Q:cq):Prop where
 out:∀S F ρ0 ρ a w,gg ρ0 D->aw.le ρ0 ρ->az S F ρ M w->dK S ρ a fr->c.wp P (fun e a' w'=>∃x,yP e=some x/\cy S F ρ0 w (Q x) a' w') a w
theorem cM {P:Program} {D:List Nat} {c:Code} {fr:List AV} {M:ah} {Q:cq}:aR P D c fr M Q↔(∀S F ρ0 ρ a w,gg ρ0 D->aw.le ρ0 ρ->az S F ρ M w->dK S ρ a fr->c.wp P (fun e a' w'=>∃x,yP e=some x/\cy S F ρ0 w (Q x) a' w') a w):=⟨fun h=>h.out,fun h=>⟨h⟩⟩
structure eZ (P:Program) (tt:TT) (ops:List Oper) (fr:List AV) (M:ah) (K:List AV->ah->Prop):Prop where
 out:(∃r,fo tt r ops=true/\dq P tt (some r) ops ops fr M K)\/(∃r ds,iE tt r ds ops=true/\pm P tt r ds ops ops fr M K)\/∃d,aV P tt d ops K ops.length [] fr M
theorem cJ {P:Program} {tt:TT} {ops:List Oper} {fr:List AV} {M:ah} {K:List AV->ah->Prop}:eZ P tt ops fr M K↔((∃r,fo tt r ops=true/\dq P tt (some r) ops ops fr M K)\/(∃r ds,iE tt r ds ops=true/\pm P tt r ds ops ops fr M K)\/∃d,aV P tt d ops K ops.length [] fr M):=⟨fun h=>h.out,fun h=>⟨h⟩⟩
theorem Fa {P:Program} {tt:TT} {ops:List Oper} {fr:List AV} {M:ah} {K:List AV->ah->Prop} (hB:fo tt .any ops=true) (h:dq P tt (some .any) ops ops fr M K):eZ P tt ops fr M K:=by
 rw[cJ];exact .inl ⟨_,hB,h⟩
theorem Hj {P:Program} {tt:TT} {ops:List Oper} {fr:List AV} {M:ah} {K:List AV->ah->Prop} (hB:fo tt .rows ops=true) (h:dq P tt (some .rows) ops ops fr M K):eZ P tt ops fr M K:=by
 rw[cJ];exact .inl ⟨_,hB,h⟩
theorem dG {P:Program} {tt:TT} {ops:List Oper} {fr:List AV} {M:ah} {K:List AV->ah->Prop} (hB:fo tt .fresh ops=true) (h:dq P tt (some .fresh) ops ops fr M K):eZ P tt ops fr M K:=by
 rw[cJ];exact .inl ⟨_,hB,h⟩
theorem Fb {P:Program} {tt:TT} {ops:List Oper} {fr:List AV} {M:ah} {K:List AV->ah->Prop} (hB:fo tt .flat ops=true) (h:dq P tt (some .flat) ops ops fr M K):eZ P tt ops fr M K:=by
 rw[cJ];exact .inl ⟨_,hB,h⟩
theorem Jh {P:Program} {tt:TT} {ops:List Oper} {fr:List AV} {M:ah} {K:List AV->ah->Prop} (hB:fo tt .own ops=true) (h:dq P tt (some .own) ops ops fr M K):eZ P tt ops fr M K:=by
 rw[cJ];exact .inl ⟨_,hB,h⟩
theorem Ji {P:Program} {tt:TT} {ops:List Oper} {fr:List AV} {M:ah} {K:List AV->ah->Prop} (as:List (Nat×Nat)) (hB:fo tt (.boxes as) ops=true) (h:dq P tt (some (.boxes as)) ops ops fr M K):eZ P tt ops fr M K:=by
 rw[cJ];exact .inl ⟨_,hB,h⟩
theorem Jj {P:Program} {tt:TT} {ops:List Oper} {fr:List AV} {M:ah} {K:List AV->ah->Prop} (r:aP) (ds:List Nat) (hB:iE tt r ds ops=true) (h:pm P tt r ds ops ops fr M K):eZ P tt ops fr M K:=by
 rw[cJ];exact .inr (.inl ⟨_,_,hB,h⟩)
theorem AU {P:Program} {tt:TT} {ops:List Oper} {fr:List AV} {M:ah} {K:List AV->ah->Prop} (h:aV P tt (some .own) ops K ops.length [] fr M):eZ P tt ops fr M K:=by
 rw[cJ];exact .inr (.inr ⟨_,h⟩)
theorem Hk {P:Program} {tt:TT} {ops:List Oper} {fr:List AV} {M:ah} {K:List AV->ah->Prop} (h:aV P tt none ops K ops.length [] fr M):eZ P tt ops fr M K:=by
 rw[cJ];exact .inr (.inr ⟨_,h⟩)
theorem Hl {P:Program} {tt:TT} {ops:List Oper} {fr:List AV} {M:ah} {K:List AV->ah->Prop} (hB:fo tt .pers ops=true) (h:dq P tt (some .pers) ops ops fr M K):eZ P tt ops fr M K:=by
 rw[cJ];exact .inl ⟨_,hB,h⟩
def cN (P:Program) (tt:TT) (D:List Nat):Code->List AV->ah->cq->Prop
 | .skip,fr,M,Q=>Q .normal fr M
 | .region _ ops draw,fr,M,Q=>match draw with
  |false=>dq P tt none ops.toList ops.toList fr M (Q .normal)
  |true=>eZ P tt ops.toList fr M (Q .normal)
 | .seq a b,fr,M,Q=>cN P tt D a fr M fun e fr' M'=>match e with
  | .normal=>cN P tt D b fr' M' Q
  | .exit i=>Q (.exit i) fr' M'
  | .ret=>Q .ret fr' M'
 | .cond c x y,fr,M,Q=>Hh fr c fun u=>match u with
  | .bool true=>cN P tt D x fr M Q
  | .bool false=>cN P tt D y fr M Q
  |_=>False
 | .block id c,fr,M,Q=>cN P tt D c fr M fun e fr' M'=>match e with
  | .normal=>Q .normal fr' M'
  | .exit i=>match Nat.beq i id with
   |true=>Q .normal fr' M'
   |false=>Q (.exit i) fr' M'
  | .ret=>Q .ret fr' M'
 | .exit id,fr,M,Q=>Q (.exit id) fr M
 | .ret,fr,M,Q=>Q .ret fr M
 | .loop c,fr,M,Q=>aR P D (.loop c) fr M Q
 | .rangeFunc f ps as c,fr,M,Q=>aR P D (.rangeFunc f ps as c) fr M Q
 | .scope c,fr,M,Q=>cN P tt D c fr M Q
 | .label _,fr,M,Q=>Q .normal fr M
 | .goto l,fr,M,Q=>aR P D (.goto l) fr M Q
 | .refuse s,fr,M,Q=>aR P D (.refuse s) fr M Q
section
variable {P:Program} {tt:TT} {D:List Nat}
theorem aR.mono {c:Code} {fr:List AV} {M:ah} {Q Q':cq} (h:aR P D c fr M Q) (hq:∀e f M,Q e f M->Q' e f M):aR P D c fr M Q':=by
 simp only[cM] at*
 intro S F ρ0 ρ a w h0 h1 hM hF
 exact wp_mono (h S F ρ0 ρ a w h0 h1 hM hF) fun e a' w' ⟨x,hx,ha⟩=>⟨x,hx,ha.mono fun f M=>hq x f M⟩
theorem bw (hT:aW P tt=true) (hm:P.follows .mixedOrders=true):∀(c:Code) (fr:List AV) (M:ah) (Q:cq),cN P tt D c fr M Q->aR P D c fr M Q:=by
 intro c
 induction c with
 |skip=>
  intro fr M Q h
  rw[cM]
  intro S F ρ0 ρ a w h0 h1 hM hF
  exact wp_skip ⟨.normal,rfl,fr,M,S,ρ,h,ae.le_refl _,h1,hM,hF,bX.refl _⟩
 |region id ops draw=>
  intro fr M Q h
  rw[cM]
  intro S F ρ0 ρ a w h0 h1 hM hF
  simp only[cN] at h
  have hQ:∀a' w',cy S F ρ w (Q .normal) a' w'->∃x,yP .normal=some x/\cy S F ρ0 w (Q x) a' w':=fun a' w' ⟨f,M',S',ρ',k,k1,k2,k3⟩=>⟨.normal,rfl,f,M',S',ρ',k,k1,aw.le_trans h1 k2,k3⟩
  have e:ops=ops.toList.toArray:=by simp
  cases draw with
  |false=>
   rw[e]
   exact wp_region_lit (xr hT ops.toList S ρ w a fr M h hM hF hQ)
  |true=>
   simp only at h
   rw[cJ] at h
   rw[e]
   rcases h with ⟨r,h1,h2⟩|⟨r,ds,h1,h2⟩|⟨d,h2⟩
   ·exact um hT hm h1 h2 hM hF hQ
   ·exact sN hT hm h1 h2 hM hF hQ
   ·exact sO hT hm h2 hM hF hQ
 |seq x y ihx ihy=>
  intro fr M Q h
  have hx:=ihx fr M _ h
  simp only[cM] at*
  intro S F ρ0 ρ a w h0 h1 hM hF
  refine wp_seq (wp_mono (hx S F ρ0 ρ a w h0 h1 hM hF) ?_)
  rintro e a' w' ⟨ex,he,f,M',S',ρ',k,k1,k2,k3,k4,k5⟩
  cases e with
  |normal=>
   cases he
   refine wp_mono (ihy f M' Q k S' F ρ0 ρ' a' w' h0 k2 k3 k4) ?_
   rintro e2 a2 w2 ⟨ex2,he2,ha⟩
   exact⟨ex2,he2,ha.trans k1 (aw.le_refl _) k5⟩
  |exit i=>cases he;exact⟨_,rfl,f,M',S',ρ',k,k1,k2,k3,k4,k5⟩
  |ret=>cases he;exact⟨_,rfl,f,M',S',ρ',k,k1,k2,k3,k4,k5⟩
  |goto l=>cases he
  |panic l=>cases he
  |outgrown=>cases he
 |cond c x y ihx ihy=>
  intro fr M Q h
  simp only[cN,o8] at h
  rw[cM]
  intro S F ρ0 ρ a w h0 h1 hM hF
  have hc:=hF.eval c
  split at h
  ·rename_i hb
   rw[hb] at hc
   have:=ihx fr M Q h
   rw[cM] at this
   exact wp_cond_true hc.bool_inv (this S F ρ0 ρ a w h0 h1 hM hF)
  ·rename_i hb
   rw[hb] at hc
   have:=ihy fr M Q h
   rw[cM] at this
   exact wp_cond_false hc.bool_inv (this S F ρ0 ρ a w h0 h1 hM hF)
  ·exact h.elim
 |block id c ih=>
  intro fr M Q h
  have hx:=ih fr M _ h
  simp only[cM] at*
  intro S F ρ0 ρ a w h0 h1 hM hF
  refine wp_block (wp_mono (hx S F ρ0 ρ a w h0 h1 hM hF) ?_)
  rintro e a' w' ⟨ex,he,f,M',S',ρ',k,k1,k2,k3,k4,k5⟩
  cases e with
  |normal=>cases he;exact⟨_,rfl,f,M',S',ρ',k,k1,k2,k3,k4,k5⟩
  |exit i=>
   cases he
   simp only[Exit.inBlock]
   simp only at k
   split at k
   ·rename_i hb
    rw[if_pos (Nat.eq_of_beq_eq_true hb)]
    exact⟨_,rfl,f,M',S',ρ',k,k1,k2,k3,k4,k5⟩
   ·rename_i hb
    rw[if_neg (fun e=>by subst e;simp at hb)]
    exact⟨_,rfl,f,M',S',ρ',k,k1,k2,k3,k4,k5⟩
  |ret=>cases he;exact⟨_,rfl,f,M',S',ρ',k,k1,k2,k3,k4,k5⟩
  |goto l=>cases he
  |panic l=>cases he
  |outgrown=>cases he
 |exit id=>
  intro fr M Q h
  rw[cM]
  intro S F ρ0 ρ a w h0 h1 hM hF
  exact wp_exit ⟨_,rfl,fr,M,S,ρ,h,ae.le_refl _,h1,hM,hF,bX.refl _⟩
 |ret=>
  intro fr M Q h
  rw[cM]
  intro S F ρ0 ρ a w h0 h1 hM hF
  exact wp_ret ⟨_,rfl,fr,M,S,ρ,h,ae.le_refl _,h1,hM,hF,bX.refl _⟩
 |loop c _=>intro fr M Q h;exact h
 |rangeFunc f ps as c _ _=>intro fr M Q h;exact h
 |scope c ih=>
  intro fr M Q h
  have h2:=ih fr M Q h
  rw[cM] at h2⊢
  intro S F ρ0 ρ a w h0 h1 hM hF
  refine wp_scope_straight (wp_mono (h2 S F ρ0 ρ a w h0 h1 hM hF) ?_)
  rintro e a' w' ⟨x,hx,ha⟩
  cases e with
  |goto l=>cases hx
  |normal=>exact⟨x,hx,ha⟩
  |exit i=>exact⟨x,hx,ha⟩
  |ret=>exact⟨x,hx,ha⟩
  |panic l=>cases hx
  |outgrown=>cases hx
 |label l=>
  intro fr M Q h
  rw[cM]
  intro S F ρ0 ρ a w h0 h1 hM hF
  exact wp_label ⟨.normal,rfl,fr,M,S,ρ,h,ae.le_refl _,h1,hM,hF,bX.refl _⟩
 |goto l=>intro fr M Q h;exact h
 |refuse s=>intro fr M Q h;exact h
structure bE (D:List Nat) (fr:List AV) (M:ah) (fr':List AV) (M':ah):Prop where
 out:∀S F ρ0 ρ a w,gg ρ0 D->aw.le ρ0 ρ->az S F ρ M w->dK S ρ a fr->∃S' ρ',S.le S'/\aw.le ρ0 ρ'/\az S' F ρ' M' w/\dK S' ρ' a fr'
theorem ik {D:List Nat} {fr:List AV} {M:ah} {fr':List AV} {M':ah}:bE D fr M fr' M'↔(∀S F ρ0 ρ a w,gg ρ0 D->aw.le ρ0 ρ->az S F ρ M w->dK S ρ a fr->∃S' ρ',S.le S'/\aw.le ρ0 ρ'/\az S' F ρ' M' w/\dK S' ρ' a fr'):=⟨fun h=>h.out,fun h=>⟨h⟩⟩
theorem aR.sub {c:Code} {fr fr':List AV} {M M':ah} {Q:cq} (hs:bE D fr M fr' M') (h:aR P D c fr' M' Q):aR P D c fr M Q:=by
 simp only[cM,ik] at*
 intro S F ρ0 ρ a w h0 h1 hM hF
 obtain⟨S',ρ',k1,k2,k3,k4⟩:=hs S F ρ0 ρ a w h0 h1 hM hF
 refine wp_mono (h S' F ρ0 ρ' a w h0 k2 k3 k4) ?_
 rintro e a' w' ⟨x,hx,ha⟩
 exact⟨x,hx,ha.trans k1 (aw.le_refl _) (bX.refl _)⟩
def kq {X:Type _} (D:List Nat) (I:X->Prop) (frI:X->List AV) (MI:X->ah) (μ:X->Nat) (x:X) (Q:cq):cq:=fun e fr M=>match e with
 | .normal=>∃x',bE D fr M (frI x') (MI x')/\I x'/\μ x'<μ x
 | .exit i=>Q (.exit i) fr M
 | .ret=>Q .ret fr M
theorem aR.loop {c:Code} {fr:List AV} {M:ah} {Q:cq} {X:Type _} (I:X->Prop) (frI:X->List AV) (MI:X->ah) (μ:X->Nat) (x0:X) (hi:I x0) (h0:bE D fr M (frI x0) (MI x0))
  (h:∀x,I x->aR P D c (frI x) (MI x) (kq D I frI MI μ x Q)):aR P D (.loop c) fr M Q:=by
 refine aR.sub h0 ?_
 rw[cM]
 intro S F ρ0 ρ a w hin h1 hM hF
 have key:∀(n:Nat) (x:X) (S1:ae) (ρ1:aw) (a1:Act) (w1:World),μ x=n->I x->S.le S1->bX w w1->aw.le ρ0 ρ1->az S1 F ρ1 (MI x) w1->dK S1 ρ1 a1 (frI x)->
   ∀b k cs,∃e a' w',(∃x,yP e=some x/\cy S F ρ0 w (Q x) a' w')/\Arrives P (lone (b.at a1 (.code c:: .inLoop c::k)) cs w1) b k cs e a' w':=by
  intro n
  induction n using Nat.strongRecOn with
  |_ n ih=>
   intro x S1 ρ1 a1 w1 hn hIx hS hw hρ hM1 hF1 b k cs
   have hx:=h x hIx
   rw[cM] at hx
   obtain⟨e,a2,w2,⟨ex,he,f,M',S2,ρ2,kk,k1,k2,k3,k4,k5⟩,harr⟩:=hx S1 F ρ0 ρ1 a1 w1 hin hρ hM1 hF1 b (.inLoop c::k) cs
   cases e with
   |normal=>
    cases he
    obtain⟨x',hsub,hIx',hlt⟩:=kk
    rw[ik] at hsub
    obtain⟨S3,ρ3,j1,j2,j3,j4⟩:=hsub S2 F ρ0 ρ2 a2 w2 hin k2 k3 k4
    obtain⟨e3,a3,w3,hq,harr3⟩:=ih (μ x') (hn▸hlt) x' S3 ρ3 a2 w2 rfl hIx' (ae.le_trans hS (ae.le_trans k1 j1)) (hw.trans k5) j2 j3 j4 b k cs
    exact⟨e3,a3,w3,hq, .of_steps (Steps.trans harr (.one step_inLoop)) harr3⟩
   |exit i=>cases he;exact⟨_,a2,w2,⟨_,rfl,f,M',S2,ρ2,kk,ae.le_trans hS k1,k2,k3,k4,hw.trans k5⟩, .pass (x:= .inLoop c) rfl (fun _ _=> .inl (by simp)) harr⟩
   |ret=>cases he;exact⟨_,a2,w2,⟨_,rfl,f,M',S2,ρ2,kk,ae.le_trans hS k1,k2,k3,k4,hw.trans k5⟩, .pass (x:= .inLoop c) rfl (fun _ _=> .inl (by simp)) harr⟩
   |goto l=>cases he
   |panic l=>cases he
   |outgrown=>cases he
 intro b k cs
 obtain⟨e,a',w',hq,harr⟩:=key _ x0 S ρ a w rfl hi (ae.le_refl _) (bX.refl _) h1 hM hF b k cs
 exact⟨e,a',w',hq, .of_steps (.one step_loop) harr⟩
def yQ {X Y:Type _} (D:List Nat) (I:X->Y->Prop) (frI:X->Y->List AV) (MI:X->Y->ah) (μ:X->Y->Nat) (x:X) (y:Y) (Q:cq):cq:=fun e fr M=>match e with
 | .normal=>∃x' y',bE D fr M (frI x' y') (MI x' y')/\I x' y'/\μ x' y'<μ x y
 | .exit i=>Q (.exit i) fr M
 | .ret=>Q .ret fr M
theorem aR.loop2 {c:Code} {fr:List AV} {M:ah} {Q:cq} {X Y:Type _} (I:X->Y->Prop) (frI:X->Y->List AV) (MI:X->Y->ah) (μ:X->Y->Nat) (x0:X) (y0:Y) (hi:I x0 y0) (h0:bE D fr M (frI x0 y0) (MI x0 y0))
  (h:∀x y,I x y->aR P D c (frI x y) (MI x y) (yQ D I frI MI μ x y Q)):aR P D (.loop c) fr M Q:=
 aR.loop (X:=X×Y) (fun z=>I z.1 z.2) (fun z=>frI z.1 z.2) (fun z=>MI z.1 z.2) (fun z=>μ z.1 z.2) (x0,y0) hi h0 fun z hz=>(h z.1 z.2 hz).mono fun e f M hh=>by
  cases e with
  |normal=>obtain⟨x',y',a,b,c⟩:=hh;exact⟨(x',y'),a,b,c⟩
  |exit i=>exact hh
  |ret=>exact hh
end
end
section
section
theorem bE.by_ {D:List Nat} {fr fr':List AV} {M:ah} (lm:c9) (L:List (Nat×bj)) (n:Nat) (hs:(iQ lm L&&iR L lm&&ri lm D)=true) (hm:dS lm n M L) (hf:g8 lm n fr fr'):bE D fr M fr' (ah.ofL L):=by
 rw[ik]
 intro S F ρ0 ρ a w h0 h1 hM hF
 rw[Bool.and_eq_true,Bool.and_eq_true] at hs
 refine⟨S,bG lm ρ,ae.le_refl _,fun ℓ b hb=>?_,hM.relabel hm hs.1.1 hs.1.2,(jp n).2 fr fr' _ hf hF.1,hF.2⟩
 have:=List.all_eq_true.1 hs.2 ℓ (h0 ℓ b hb)
 unfold bG
 cases hf:aQ lm ℓ with
 |none=>rw[hf] at this;cases this
 |some x=>
  rw[hf] at this
  cases x with
  |old m=>
   simp only at this⊢
   rw[Nat.eq_of_beq_eq_true this]
   exact h1 ℓ b hb
  |nil _=>cases this
end
def DP:Nat->(List AV->Prop)->Prop
 |0,k=>k []
 |n+1,k=>DP n fun l=>k (.tup []::l)
theorem xw:∀(n:Nat) (k:List AV->Prop),DP n k=k (List.replicate n (.tup []))
 |0,k=>rfl
 |n+1,k=>by rw[DP,xw n];rfl
def oi:List AV->Nat->(List AV->Prop)->Prop
 |[],n,k=>DP n k
 |u::us,n,k=>oi us n fun l=>k (u::l)
theorem gq:∀(us:List AV) (n:Nat) (k:List AV->Prop),oi us n k=k (us++List.replicate n (.tup []))
 |[],n,k=>by rw[oi,xw];rfl
 |u::us,n,k=>by rw[oi,gq us n];rfl
def nh (tmps:Array Value):ResultVar->Sem Value
 | .tmp t=>pure (tmps.getD t undef)
 | .cell x t=>do loadVar t (<-asAddr (tmps.getD x undef))
def jS (tt:TT) (fr:List AV) (M:ah):List ResultVar->(List AV->Prop)->Prop
 |[],k=>k []
 |r::rs,k=>match r with
  | .tmp t=>sH fr t fun u=>jS tt fr M rs fun us=>k (u::us)
  | .cell a t=>sH fr a fun p=>fg (fh tt t M p) fun u=>jS tt fr M rs fun us=>k (u::us)
def d9:List AV->AV
 |[u]=>u
 |us=> .tup us
def f5:List AV->ah->(List AV->ah->Prop)->Prop
 |[],M,K=>K [] M
 |u::us,M,K=>match u with
  | .agg cs=>dp cs M fun cs' M'=>f5 us M' fun us' M''=>K (.agg cs'::us') M''
  | .ptr ℓ 0=>match M ℓ with
   |some (.box _ cells)=>match bZ cells with
    |true=>f5 us (M.set ℓ .dead) fun us' M''=>K (.pd cells::us') M''
    |false=>f5 us M fun us' M''=>K (.ptr ℓ 0::us') M''
   |_=>f5 us M fun us' M''=>K (.ptr ℓ 0::us') M''
  |u=>dp [u] M fun x M'=>f5 us M' fun us' M''=>K (x++us') M''
section
variable {S F:ae} {ρ:aw} {M:ah} {w:World} {P:Program} {tt:TT}
theorem gr (hT:aW P tt=true) (hM:az S F ρ M w) {a:Act} {fr:List AV} (hF:dK S ρ a fr):∀(rs:List ResultVar) (k:List AV->Prop),jS tt fr M rs k->
  ∃vs us,k us/\ba S ρ vs us/\vs.length=rs.length/\(rs.mapM (nh a.tmps)).run P w= .ok vs w
 |[],k,h=>⟨[],[],h,ba.nil _ _,rfl,by simp⟩
 |r::rs,k,h=>by
  cases r with
  |tmp t=>
   simp only[jS,kS] at h
   obtain⟨vs,us,hk,hv,hl,hr⟩:=gr hT hM hF rs _ h
   exact⟨a.tmps.getD t undef::vs,_,hk,ba.cons (hF.eval (.tmp t)) hv,by simp[hl],by simp[List.mapM_cons,hr,nh]⟩
  |cell x t=>
   simp only[jS,kS] at h
   have hx:=hF.eval (.tmp x)
   obtain⟨v,u,he,hv,h⟩:=Ar h (ra (t:=t) hT hM hx).next
   obtain⟨vs,us,hk,hvs,hl,hr⟩:=gr hT hM hF rs _ h
   have he':(Instr.loadAt t (a.eval (.tmp x))).run P w= .ok v w:=by
    simp only[Sem.run_bind] at he
    cases hq:(Instr.loadAt t (a.eval (.tmp x))).run P w with
    |ok y w'=>rw[hq] at he;simp at he;rw[he.1,he.2]
    |halt y w'=>rw[hq] at he;simp at he
   have he2:(nh a.tmps (.cell x t)).run P w= .ok v w:=by
    unfold nh
    have:a.eval (.tmp x)=a.tmps.getD x undef:=rfl
    rw[this] at he'
    show(do loadVar t (<-asAddr (a.tmps.getD x undef)):Sem Value).run P w= .ok v w
    generalize a.tmps.getD x undef=y at he'⊢
    unfold Instr.loadAt Instr.sureAddr at he'
    cases y with
    |pointer ad=>
     cases ad with
     |some ad=>simpa[asAddr] using he'
     |none=>simp at he'
    |_=>simp at he'
   exact⟨v::vs,_,hk,ba.cons hv hvs,by simp[hl],by simp[List.mapM_cons,he2,hr]⟩
theorem eE:∀(us:List AV) (vs:List Value) (S:ae) (M:ah) (K:List AV->ah->Prop),f5 us M K->ba S ρ vs us->az S F ρ M w->
  ∃us' M' S',K us' M'/\S.le S'/\ba S' ρ vs us'/\az S' F ρ M' w
 |[],vs,S,M,K,h,hv,hM=>⟨[],M,S,h,ae.le_refl _,hv,hM⟩
 |u::us,vs,S,M,K,h,hv,hM=>by
  obtain⟨x,xs,rfl,hx,hxs⟩:=hv.cons_inv
  simp only[f5] at h
  split at h
  ·rename_i cs
   obtain⟨ys,rfl,hys⟩:=hx.agg_inv
   obtain⟨cs',M1,S1,h,hle,hc,hM1,_⟩:=fY _ _ _ _ _ h hys hM
   obtain⟨us',M',S',hK,hle',hvs',hM'⟩:=eE us xs S1 M1 _ h (hxs.mono hle (aw.le_refl _)) hM1
   refine⟨_,M',S',hK,ae.le_trans hle hle',ba.cons ?_ hvs',hM'⟩
   have:=RV.agg_mk (hc.mono hle' (aw.le_refl _))
   simpa using this
  ·split at h
   ·rename_i hl
    split at h
    ·rename_i hp
     obtain⟨S1,b,hle,hb,hM1,hr⟩:=hM.leakBox hl (fun j u v hu hv=>by
      have ho:lS u=true:=by
       have:∀(l:List AV),bZ l=true->∀u∈l,lS u=true:=by
        intro l
        induction l with
        |nil=>intro _ u hu;cases hu
        |cons a l ih=>
         intro hp u hu
         simp only[bZ] at hp
         split at hp
         ·rename_i ha
          rcases List.mem_cons.1 hu with rfl|hu
          ·exact ha
          ·exact ih hp u hu
         ·simp at hp
       exact this _ hp u (List.mem_of_getElem? hu)
      exact(tU ho hv).1)
     obtain⟨us',M',S',hK,hle',hvs',hM'⟩:=eE us xs S1 _ _ h (hxs.mono hle (aw.le_refl _)) hM1
     obtain⟨b',hb',rfl⟩:=hx.ptr_inv
     rw[hb] at hb';cases hb'
     exact⟨_,M',S',hK,ae.le_trans hle hle',ba.cons (.p (hr.mono hle')) hvs',hM'⟩
    ·obtain⟨us',M',S',hK,hle',hvs',hM'⟩:=eE us xs S M _ h hxs hM
     exact⟨_,M',S',hK,hle',ba.cons (hx.mono hle' (aw.le_refl _)) hvs',hM'⟩
   ·obtain⟨us',M',S',hK,hle',hvs',hM'⟩:=eE us xs S M _ h hxs hM
    exact⟨_,M',S',hK,hle',ba.cons (hx.mono hle' (aw.le_refl _)) hvs',hM'⟩
  ·obtain⟨y,M1,S1,h,hle,hc,hM1,_⟩:=fY _ [x] _ _ _ h (ba.cons hx (ba.nil _ _)) hM
   obtain⟨us',M',S',hK,hle',hvs',hM'⟩:=eE us xs S1 M1 _ h (hxs.mono hle (aw.le_refl _)) hM1
   exact⟨_,M',S',hK,ae.le_trans hle hle',(hc.mono hle' (aw.le_refl _)).append hvs',hM'⟩
theorem gR {vs:List Value} {us:List AV} (hv:ba S ρ vs us):RV S ρ (if h:vs.length=1 then vs[0] else .tuple vs.toArray) (d9 us):=by
 cases us with
 |nil=>rw[hv.nil_inv];simpa[d9] using RV.tup_mk (ba.nil S ρ)
 |cons u us=>
  obtain⟨x,xs,rfl,hx,hxs⟩:=hv.cons_inv
  cases us with
  |nil=>have:=hxs.nil_inv;subst this;simpa[d9] using hx
  |cons u2 us=>
   obtain⟨x2,xs2,rfl,_,_⟩:=hxs.cons_inv
   simpa[d9] using RV.tup_mk hv
def DQ (tt:TT) (rs:List ResultVar) (R:AV->ah->Prop):cq:=fun e fr M=>match e with
 | .normal=>jS tt fr M rs fun us=>R (d9 us) M
 | .ret=>jS tt fr M rs fun us=>R (d9 us) M
 | .exit _=>False
def DR (tt:TT) (rs:List ResultVar) (R:AV->ah->Prop):cq:=fun e fr M=>match e with
 | .normal=>jS tt fr M rs fun us=>f5 us M fun us' M'=>R (d9 us') M'
 | .ret=>jS tt fr M rs fun us=>f5 us M fun us' M'=>R (d9 us') M'
 | .exit _=>False
def FP (tt:TT) (rs:List ResultVar) (R:AV->Prop):cq:=fun e fr M=>match e with
 | .normal=>jS tt fr M rs fun us=>f5 us M fun us' _=>R (d9 us')/\b9 5 (d9 us')=true
 | .ret=>jS tt fr M rs fun us=>f5 us M fun us' _=>R (d9 us')/\b9 5 (d9 us')=true
 | .exit _=>False
theorem dV {fn:Func} {tmps:Array Value} {vs:List Value} (h:(fn.results.toList.mapM (nh tmps)).run P w= .ok vs w):(results fn tmps).run P w= .ok (if h:vs.length=1 then vs[0] else .tuple vs.toArray) w:=by
 have e:results fn tmps=(do
   let vs <-fn.results.mapM (nh tmps)
   pure (if h:vs.size=1 then vs[0] else .tuple vs)):=by
  unfold results
  congr 2
 rw[e,Array.mapM_eq_mapM_toList]
 simp only[Sem.run_bind,Sem.run_map,h,Result.andThen_ok,Sem.run_pure]
 congr 1
theorem ni {f:FuncId} {fn:Func} {c:Code} {args:List AV} {D:List Nat} (hf:P.funcs[f]? =some fn) (hb:fn.body=some c) {Q:cq}
  (hw:oi args (fn.ntmps-args.length) fun fr=>aR P D c fr M Q) {ρ0:aw} (hD:gg ρ0 D) {vs:List Value} (hM:az S F ρ0 M w) (hv:ba S ρ0 vs args) {R:Ending->World->Prop}
  (hR:∀(e:Hi) a' w',cy S F ρ0 w (Q e) a' w'->a'.defers=[]->(∀i,e≠ .exit i)/\∃v,(results fn a'.tmps).run P w'= .ok v w'/\R (.returned v) w'):Calls P f vs.toArray w R:=by
 rw[gq] at hw
 rw[cM] at hw
 refine calls_of_wp hf hb ?_
 have hlen:=hv.1
 have hF:dK S ρ0 {tmps:=vs.toArray++Array.replicate (fn.ntmps-vs.toArray.size) undef,defers:=[]} (args++List.replicate (fn.ntmps-args.length) (.tup [])):=by
  refine⟨?_,rfl⟩
  have e:(vs.toArray++Array.replicate (fn.ntmps-vs.toArray.size) undef).toList=vs++List.replicate (fn.ntmps-args.length) undef:=by simp[hlen]
  rw[e]
  refine hv.append ⟨by simp,fun i u hu=>?_⟩
  have hi:=(List.getElem?_eq_some_iff.1 hu).1
  simp only[List.length_replicate] at hi
  have hu':u= .tup []:=by
   rw[List.getElem?_replicate] at hu
   simp[hi] at hu
   exact hu.symm
  subst hu'
  exact⟨undef,by simp[hi],RV.tup_mk (ba.nil _ _)⟩
 refine wp_mono (hw S F ρ0 ρ0 _ w hD (aw.le_refl _) hM hF) ?_
 rintro e a' w' ⟨x,hx,ha⟩
 have hd:a'.defers=[]:=by obtain⟨_,_,_,_,_,_,_,_,hF',_⟩:=ha;exact hF'.2
 obtain⟨h1,v,h2,h3⟩:=hR x a' w' ha hd
 cases e with
 |normal=>exact⟨hd,v,h2,h3⟩
 |ret=>exact⟨hd,v,h2,h3⟩
 |exit i=>cases hx;exact absurd rfl (h1 i)
 |goto l=>cases hx
 |panic l=>cases hx
 |outgrown=>cases hx
theorem gS {f:FuncId} {fn:Func} {c:Code} (hf:P.funcs[f]? =some fn) (hb:fn.body=some c) (hn:(fn.name== "runtime.NumGoroutine")=false):kc P f:=⟨fn,hf,hn,by rw[hb];rfl⟩
theorem ar.intro (hT:aW P tt=true) (hm:P.follows .mixedOrders=true) {f:FuncId} {fn:Func} {c:Code} {args:List AV} (L:List (Nat×bj)) {R:AV->ah->Prop} (hf:P.funcs[f]? =some fn) (hb:fn.body=some c) (hn:(fn.name== "runtime.NumGoroutine")=false)
  (h:oi args (fn.ntmps-args.length) fun fr=>cN P tt (L.map (·.1)) c fr (ah.ofL L) (DQ tt fn.results.toList R)):ar P f args (ah.ofL L) R:=by
 rw[bP]
 refine⟨gS hf hb hn,fun S F ρ vs w hM hv=>?_⟩
 have hD:gg ρ (L.map (·.1)):=fun ℓ b hb=>by
  have:=hM.dom ℓ b hb
  cases hB:ah.ofL L ℓ with
  |none=>exact absurd hB this
  |some B=>exact List.mem_map_of_mem (f:=(·.1)) (gn hB)
 refine ni (D:=L.map (·.1)) (Q:=DQ tt fn.results.toList R) hf hb ?_ hD hM hv fun e a' w' ha hd=>?_
 ·rw[gq] at h⊢;exact bw hT hm c _ _ _ h
 ·obtain⟨fr,M',S',ρ',hk,h1,h2,h3,h4,h5⟩:=ha
  have fin:jS tt fr M' fn.results.toList (fun us=>R (d9 us) M')->∃v,(results fn a'.tmps).run P w'= .ok v w'/\iO S F ρ w R (.returned v) w':=by
   intro hk
   obtain⟨vs',us,hK,hvs,hl,hr⟩:=gr hT h3 h4 _ _ hk
   exact⟨_,dV hr,_,_,M',S',ρ',rfl,hK,h1,h2,h3,gR hvs,h5⟩
  cases e with
  |normal=>exact⟨by simp,fin hk⟩
  |ret=>exact⟨by simp,fin hk⟩
  |exit i=>exact hk.elim
theorem ar.introL (hT:aW P tt=true) (hm:P.follows .mixedOrders=true) {f:FuncId} {fn:Func} {c:Code} {args:List AV} (L:List (Nat×bj)) {R:AV->ah->Prop} (hf:P.funcs[f]? =some fn) (hb:fn.body=some c) (hn:(fn.name== "runtime.NumGoroutine")=false)
  (h:oi args (fn.ntmps-args.length) fun fr=>cN P tt (L.map (·.1)) c fr (ah.ofL L) (DR tt fn.results.toList R)):ar P f args (ah.ofL L) R:=by
 rw[bP]
 refine⟨gS hf hb hn,fun S F ρ vs w hM hv=>?_⟩
 have hD:gg ρ (L.map (·.1)):=fun ℓ b hb=>by
  have:=hM.dom ℓ b hb
  cases hB:ah.ofL L ℓ with
  |none=>exact absurd hB this
  |some B=>exact List.mem_map_of_mem (f:=(·.1)) (gn hB)
 refine ni (D:=L.map (·.1)) (Q:=DR tt fn.results.toList R) hf hb ?_ hD hM hv fun e a' w' ha hd=>?_
 ·rw[gq] at h⊢;exact bw hT hm c _ _ _ h
 ·obtain⟨fr,M',S',ρ',hk,h1,h2,h3,h4,h5⟩:=ha
  have fin:(jS tt fr M' fn.results.toList fun us=>f5 us M' fun us' M''=>R (d9 us') M'')->∃v,(results fn a'.tmps).run P w'= .ok v w'/\iO S F ρ w R (.returned v) w':=by
   intro hk
   obtain⟨vs',us,hK,hvs,hl,hr⟩:=gr hT h3 h4 _ _ hk
   obtain⟨us',M2,S2,hR,hle,hvs2,hM2⟩:=eE _ _ _ _ _ hK hvs h3
   exact⟨_,dV hr,_,_,M2,S2,ρ',rfl,hR,ae.le_trans h1 hle,h2,hM2,gR hvs2,h5⟩
  cases e with
  |normal=>exact⟨by simp,fin hk⟩
  |ret=>exact⟨by simp,fin hk⟩
  |exit i=>exact hk.elim
theorem aa.intro (hT:aW P tt=true) (hm:P.follows .mixedOrders=true) {f:FuncId} {fn:Func} {c:Code} {args:List AV} {R:AV->Prop} (hf:P.funcs[f]? =some fn) (hb:fn.body=some c) (hn:(fn.name== "runtime.NumGoroutine")=false)
  (h:oi args (fn.ntmps-args.length) fun fr=>cN P tt [] c fr ah.none (FP tt fn.results.toList R)):aa P f args R:=by
 rw[fG]
 refine⟨gS hf hb hn,fun S F vs w hg hs hfr hd hv=>?_⟩
 refine ni (M:=ah.none) (ρ0:=fun _=>none) (D:=[]) (Q:=FP tt fn.results.toList R) hf hb ?_ (fun ℓ b hb=>by cases hb) ⟨hs,hfr,hd,by simp,by simp[ah.none],by simp,hg⟩ (hv.rv _) fun e a' w' ha hd'=>?_
 ·rw[gq] at h⊢;exact bw hT hm c _ _ _ h
 ·obtain⟨fr,M',S',ρ',hk,h1,h2,h3,h4,h5⟩:=ha
  have fin:(jS tt fr M' fn.results.toList fun us=>f5 us M' fun us' _=>R (d9 us')/\b9 5 (d9 us')=true)->∃v,(results fn a'.tmps).run P w'= .ok v w'/\lZ S F w R (.returned v) w':=by
   intro hk
   obtain⟨vs',us,hK,hvs,hl,hr⟩:=gr hT h3 h4 _ _ hk
   obtain⟨us',M2,S2,⟨hR,hp⟩,hle,hvs2,hM2⟩:=eE _ _ _ _ _ hK hvs h3
   exact⟨_,dV hr,_,_,S2,rfl,hR,ae.le_trans h1 hle,hM2.sw,hM2.fw,hM2.sf,ke 5 hp (gR hvs2),h5⟩
  cases e with
  |normal=>exact⟨by simp,fin hk⟩
  |ret=>exact⟨by simp,fin hk⟩
  |exit i=>exact hk.elim
end
end
section
section
variable {M:ah} {P:Program}
theorem yR (ℓ:Nat) (B:bj) (M:ah):fZ [(ℓ,B)] M=M.set ℓ B:=by
 funext x
 simp only[fZ,ah.ofL,ah.set]
 by_cases h:x=ℓ
 ·subst h;simp
 ·have h1:Nat.beq ℓ x=false:=by rw[Bool.eq_false_iff];intro hh;exact h (Nat.eq_of_beq_eq_true hh).symm
  have h2:Nat.beq x ℓ=false:=by rw[Bool.eq_false_iff];intro hh;exact h (Nat.eq_of_beq_eq_true hh)
  simp[h1,h2]
def newRow (n sz:Nat) (B:bj):AV->ah->Prop:=fun u M=>∃ℓ0,u= .row ℓ0 n sz/\jR [] 1 (M ℓ0) B
theorem ar.fresh {f:FuncId} {args:List AV} {K:AV->ah->Prop} {n sz:Nat} {t:TypeId} {α:Type} {d:α} {enc:α->List AV} {l:List α} (ℓ:Nat)
  (h:ar P f args (ah.ofL []) (fun u M=>∃ℓ0,u= .row ℓ0 n sz/\M ℓ0=some (.row t d enc l))) (hf:(M ℓ).isNone=true) (ha:g8 [] 400 args args)
  (hk:K (.row ℓ n sz) (M.set ℓ (.row t d enc l))):ar P f args M K:=by
 refine ar.call [] [] 400 rfl trivial ha h ?_
 rintro u M' ⟨ℓ0,rfl,e⟩
 refine⟨[(ℓ, .old ℓ0)],[(ℓ, .row t d enc l)], .row ℓ n sz,?_,?_,?_,?_⟩
 ·simp[iQ,iR,jo,l7,ub,m7,ah.ofL,hf]
 ·simp[dS,aQ,jR,e]
 ·simp[kR,aQ]
 ·rw[yR];exact hk
theorem cu {f:FuncId} {args:List AV} {K:AV->ah->Prop} {R:AV->ah->Prop} (n:Nat) (lb:c9) (L2:List (Nat×bj)) (u':AV) (h:ar P f args (ah.ofL []) R) (ha:g8 [] n args args)
  (hb:(iQ lb L2&&iR L2 lb&&ub [] lb&&m7 [] lb M)=true) (hf:L2.all (fun p=>(M p.1).isNone)=true) (hr:∀u M',R u M'->dS lb n M' L2/\kR lb n u u') (hk:K u' (fZ L2 M)):jM P f args M K:=
 ⟨R,n,lb,L2,u',h,ha,hb,hf,hr,hk⟩
theorem ar.news {f:FuncId} {args:List AV} {K:AV->ah->Prop} {R:AV->ah->Prop} (n:Nat) (lb:c9) (L2:List (Nat×bj)) (u':AV) (h:ar P f args (ah.ofL []) R) (ha:g8 [] n args args)
  (hb:(iQ lb L2&&iR L2 lb&&ub [] lb&&m7 [] lb M)=true) (hr:∀u M',R u M'->dS lb n M' L2/\kR lb n u u') (hk:K u' (fZ L2 M)):ar P f args M K:=
 ar.call [] [] n rfl trivial ha h fun u M' hR=>⟨lb,L2,u',hb,(hr u M' hR).1,(hr u M' hR).2,hk⟩
end
end
section
def sP:List Oper->List Nat->List Nat
 |[],r=>r
 |o::l,r=>match o.dst with
  |some d=>d::sP l r
  |none=>sP l r
def jO:Code->List Nat->List Nat
 | .region _ ops _,r=>sP ops.toList r
 | .seq a b,r=>jO a (jO b r)
 | .cond _ a b,r=>jO a (jO b r)
 | .block _ a,r=>jO a r
 | .loop a,r=>jO a r
 | .rangeFunc _ ps a b,r=>ps.toList++jO a (jO b r)
 | .scope a,r=>jO a r
 |_,r=>r
def nj:List Nat->(List Nat->Prop)->Prop
 |[],k=>k []
 |n::l,k=>nj l fun l'=>k (n::l')
theorem kV:∀(l:List Nat) (k:List Nat->Prop),nj l k=k l
 |[],_=>rfl
 |n::l,k=>by rw[nj,kV l]
def Hm:List Nat->Nat->Bool
 |[],_=>false
 |n::l,i=>match Nat.beq n i with|true=>true|false=>Hm l i
def nW:List AV->Nat->List Nat->(List AV->Prop)->Prop
 |[],_,_,k=>k []
 |u::fr,i,ms,k=>match Hm ms i with
  |true=>nW fr (Nat.succ i) ms fun r=>k (.top::r)
  |false=>match u with
   | .tup _=>nW fr (Nat.succ i) ms fun r=>k (.top::r)
   |u=>nW fr (Nat.succ i) ms fun r=>k (u::r)
theorem iU:∀(fr:List AV) (i:Nat) (ms:List Nat) (k:List AV->Prop),nW fr i ms k->∃fr0,k fr0
 |[],_,_,k,h=>⟨[],h⟩
 |u::fr,i,ms,k,h=>by
  unfold nW at h
  split at h
  ·obtain⟨r,hr⟩:=iU fr _ _ _ h;exact⟨_,hr⟩
  ·split at h
   ·obtain⟨r,hr⟩:=iU fr _ _ _ h;exact⟨_,hr⟩
   ·obtain⟨r,hr⟩:=iU fr _ _ _ h;exact⟨_,hr⟩
def kr:List AV->List (Nat×AV)->List AV
 |fr,[]=>fr
 |fr,(i,u)::us=>kr (fr.set i u) us
def rC:List AV->List (Nat×AV)->(List AV->Prop)->Prop
 |fr,[],k=>k fr
 |fr,(i,u)::us,k=>uc fr i u fun fr'=>rC fr' us k
theorem mf:∀(us:List (Nat×AV)) (fr:List AV) (k:List AV->Prop),rC fr us k=k (kr fr us)
 |[],_,_=>rfl
 |(i,u)::us,fr,k=>by rw[rC,ov,mf us];rfl
def lO (L:List (Nat×bj)):c9:=L.map fun p=>(p.1, .old p.1)
theorem bE.id_ {D:List Nat} {fr fr':List AV} {M:ah} {L:List (Nat×bj)} (n:Nat) (hs:(iQ (lO L) L&&iR L (lO L)&&ri (lO L) D)=true) (hm:dS (lO L) n M L) (hf:g8 (lO L) n fr fr'):bE D fr M fr' (ah.ofL L):=
 bE.by_ (lO L) L n hs hm hf
theorem sI {D:List Nat} {fr fr':List AV} {M:ah} {L:List (Nat×bj)} (hm:dS (lO L) 400 M L:=by repeat' (first|exact True.intro|exact rfl|(refine And.intro ?_ ?_)|((conv=>whnf);omega)|((conv=>whnf);simp only[List.length_append,List.length_cons,List.length_nil];done)|((conv=>whnf);simp only[List.length_append,List.length_cons,List.length_nil];omega))) (hf:g8 (lO L) 400 fr fr':=by repeat' (first|exact True.intro|exact rfl|(refine And.intro ?_ ?_)|((conv=>whnf);omega)|((conv=>whnf);simp only[List.length_append,List.length_cons,List.length_nil];done)|((conv=>whnf);simp only[List.length_append,List.length_cons,List.length_nil];omega))) (hs:(iQ (lO L) L&&iR L (lO L)&&ri (lO L) D)=true:=by exact rfl):bE D fr M fr' (ah.ofL L):=bE.id_ 400 hs hm hf
theorem ar.norm {P:Program} {f:FuncId} {args:List AV} {L0:List (Nat×bj)} {R R':AV->ah->Prop} (n:Nat) (h:ar P f args (ah.ofL L0) R)
  (hk:∀u M',R u M'->∃(L:List (Nat×bj)) (u':AV),(iQ (lO L) L&&iR L (lO L)&&ri (lO L) (L0.map (·.1)))=true/\dS (lO L) n M' L/\kR (lO L) n u u'/\R' u' (ah.ofL L)):ar P f args (ah.ofL L0) R':=by
 rw[bP] at h⊢
 refine⟨h.1,fun S F ρ vs w hM hv=>(h.2 S F ρ vs w hM hv).mono ?_⟩
 rintro e w' ⟨v,u,M',S',ρ',rfl,hR,hle,hρ,hM',hr,hw⟩
 obtain⟨L,u',hb,hm,ha,hR'⟩:=hk u M' hR
 simp only[Bool.and_eq_true] at hb
 obtain⟨⟨hb1,hb2⟩,hb3⟩:=hb
 refine⟨v,u',_,S',bG (lO L) ρ',rfl,hR',hle,fun ℓ b hb=>?_,hM'.relabel hm hb1 hb2,(jp n).1 u u' v ha hr,hw⟩
 have hd:=hM.dom ℓ b hb
 obtain⟨B,hB⟩:∃B,ah.ofL L0 ℓ=some B:=by
  cases h:ah.ofL L0 ℓ with
  |none=>exact absurd h hd
  |some B=>exact⟨B,rfl⟩
 have hmem:=List.mem_map_of_mem (f:=(·.1)) (gn hB)
 have:=List.all_eq_true.1 hb3 _ hmem
 simp only at this
 split at this
 ·rename_i m hm'
  have:=Nat.eq_of_beq_eq_true this
  subst this
  show bG (lO L) ρ' _=_
  unfold bG
  rw[hm']
  exact hρ _ _ hb
 ·cases this
theorem ar.renorm {P:Program} {f:FuncId} {args:List AV} {L0:List (Nat×bj)} {R R':AV->ah->Prop} (n:Nat) (h:ar P f args (ah.ofL L0) R)
  (hk:∀u M',R u M'->∃(lm:c9) (L:List (Nat×bj)) (u':AV),(iQ lm L&&iR L lm&&ri lm (L0.map (·.1)))=true/\dS lm n M' L/\kR lm n u u'/\R' u' (ah.ofL L)):ar P f args (ah.ofL L0) R':=by
 rw[bP] at h⊢
 refine⟨h.1,fun S F ρ vs w hM hv=>(h.2 S F ρ vs w hM hv).mono ?_⟩
 rintro e w' ⟨v,u,M',S',ρ',rfl,hR,hle,hρ,hM',hr,hw⟩
 obtain⟨lm,L,u',hb,hm,ha,hR'⟩:=hk u M' hR
 simp only[Bool.and_eq_true] at hb
 obtain⟨⟨hb1,hb2⟩,hb3⟩:=hb
 refine⟨v,u',_,S',bG lm ρ',rfl,hR',hle,fun ℓ b hb=>?_,hM'.relabel hm hb1 hb2,(jp n).1 u u' v ha hr,hw⟩
 have hd:=hM.dom ℓ b hb
 obtain⟨B,hB⟩:∃B,ah.ofL L0 ℓ=some B:=by
  cases h:ah.ofL L0 ℓ with
  |none=>exact absurd h hd
  |some B=>exact⟨B,rfl⟩
 have hmem:=List.mem_map_of_mem (f:=(·.1)) (gn hB)
 have:=List.all_eq_true.1 hb3 _ hmem
 simp only at this
 split at this
 ·rename_i m hm'
  have:=Nat.eq_of_beq_eq_true this
  subst this
  show bG lm ρ' _=_
  unfold bG
  rw[hm']
  exact hρ _ _ hb
 ·cases this
section
variable {P:Program} {tt:TT} {D:List Nat}
theorem aR.loopF (hT:aW P tt=true) (hm:P.follows .mixedOrders=true) {c:Code} {fr:List AV} {M:ah} {Q:cq} {X:Type _} (I:X->Prop) (us:X->List (Nat×AV)) (L:X->List (Nat×bj)) (μ:X->Nat) (x0:X) (hi:I x0)
  (h:nj (jO c []) fun ms=>nW fr 0 ms fun fr0=>bE D fr M (kr fr0 (us x0)) (ah.ofL (L x0))/\
   ∀x,I x->rC fr0 (us x) fun fr1=>cN P tt D c fr1 (ah.ofL (L x)) (kq D I (fun x=>kr fr0 (us x)) (fun x=>ah.ofL (L x)) μ x Q)):aR P D (.loop c) fr M Q:=by
 rw[kV] at h
 obtain⟨fr0,h0,h⟩:=iU _ _ _ _ h
 refine aR.loop I (fun x=>kr fr0 (us x)) (fun x=>ah.ofL (L x)) μ x0 hi h0 fun x hx=>?_
 have:=h x hx
 rw[mf] at this
 exact bw hT hm _ _ _ _ this
end
end
section
theorem ar.dcall {P:Program} {M:ah} {f:FuncId} {args:List AV} {p:Prop} {i:Decidable p} {K:AV->ah->Prop} {n:Nat} (h:aa P f args (fun u=>u= .bool (@decide p i))) (hp:args.all (b9 n)=true) (ht:p->K (.bool true) M) (hf:¬p->K (.bool false) M):ar P f args M K:=
 ar.of_pure (n:=n) h hp fun u hu=>by
  subst hu
  by_cases hh:p
  ·rw[decide_eq_true hh];exact ht hh
  ·rw[decide_eq_false hh];exact hf hh
theorem Hn {P:Program} {f:FuncId} {args:List AV} {p:Prop} {i:Decidable p} {K:AV->Prop} (n:Nat) (h:aa P f args (fun u=>u= .bool (@decide p i))) (hp:args.all (b9 n)=true) (ht:p->K (.bool true)) (hf:¬p->K (.bool false)):o9 P f args K:=
 sJ n h hp ⟨_,rfl⟩ fun u hu=>by
  subst hu
  by_cases hh:p
  ·rw[decide_eq_true hh];exact ht hh
  ·rw[decide_eq_false hh];exact hf hh
theorem aH {p:Prop} {i:Decidable p} (h:p):AV.bool true= .bool (@decide p i):=by rw[decide_eq_true h]
theorem an {p:Prop} {i:Decidable p} (h:¬p):AV.bool false= .bool (@decide p i):=by rw[decide_eq_false h]
def wv (M:ah):AV->AV
 | .row ℓ n sz=>match M ℓ with
  |some (.row _ d enc l)=> .sl d enc l
  |some (.gone d enc l)=> .sl d enc l
  |_=> .row ℓ n sz
 | .ptr ℓ o=>match M ℓ with
  |some (.box _ cells)=>match bZ cells with
   |true=> .pd (cells.drop o)
   |false=> .ptr ℓ o
  |_=> .ptr ℓ o
 |u=>u
def DS (M:ah):AV->AV
 | .agg cs=> .agg (cs.map (wv M))
 | .fn f cs=> .fn f (cs.map (wv M))
 |u=>wv M u
def Fc:bj->Bool
 | .row _ _ _ _=>true
 | .box _ _=>true
 | .hdr _ _ _=>true
 |_=>false
def uq:AV->Bool
 | .int _ _| .bool _| .str _| .nilsl| .top=>true
 |_=>false
def AW:AV->Bool
 | .tup cs=>cs.all uq
 | .agg cs=>cs.all uq
 |u=>uq u
section
variable {P:Program} {S F:ae} {ρ:aw} {M:ah} {w:World}
def mg (ρ:aw) (M:ah) (k:Nat):Prop:=∃ℓ B b,M ℓ=some B/\ρ ℓ=some b/\Fc B=true/\B.live b/\b.blk=k
noncomputable def e7 (S:ae) (ρ:aw) (M:ah) (w:World):ae:=fun k=>open Classical in if mg ρ M k then w.heap[k]? else S k
theorem nk (hM:az S F ρ M w) {k:Nat} (h:mg ρ M k):S k=none/\F k=none/\k<w.heap.size:=by
 obtain⟨ℓ,B,b,h1,h2,_,h3,rfl⟩:=h
 obtain⟨b',hb',hr⟩:=hM.blk _ _ h1
 rw[h2] at hb';cases hb'
 exact⟨(hr.off h3).1,(hr.off h3).2,hr.lt h3⟩
theorem ur (hM:az S F ρ M w):S.le (e7 S ρ M w):=by
 intro k o hk
 unfold e7
 split
 ·rename_i h
  rw[(nk hM h).1] at hk;cases hk
 ·exact hk
theorem AX (hM:az S F ρ M w):(e7 S ρ M w).inW w:=by
 intro k o hk
 unfold e7 at hk
 split at hk
 ·exact hk
 ·exact hM.sw k o hk
theorem sQ (hM:az S F ρ M w) {v:Value} {u:AV} (h:RV S ρ v u):RV (e7 S ρ M w) ρ v (wv M u):=by
 have hle:=ur (S:=S) (F:=F) hM
 unfold wv
 split
 ·rename_i ℓ n sz
  split
  ·rename_i t α d enc l hl
   obtain⟨b,hb,hn,hs,hz,rfl⟩:=h.row_inv
   obtain⟨b',hb',hlen,hszs,hcase⟩:=hM.blk _ _ hl
   rw[hb] at hb';cases hb'
   rcases hcase with ⟨hnil,rfl,hcap⟩|⟨hnil,hcap,vs,hheap,hsize,hcell,hS,hF⟩
   ·have e:b.hdr= .slice none 0 0:=by simp only[dZ.hdr,hnil,if_true,hcap];simp at hlen;rw[hlen]
    rw[e]
    exact .p (.sl d enc [] none 0 1 (fun _ _=> .int .i64 0) (by simp) (by simp) (by simp) (fun i j hi=>by simp at hi) (by simp) (fun i a j u hi=>by simp at hi))
   ·have e:b.hdr= .slice (some ⟨b.blk,0,none⟩) l.length b.cap:=by simp only[dZ.hdr,hnil,hlen];rfl
    rw[e]
    have hl1:e7 S ρ M w b.blk=some (.cells vs t (0,0)):=by
     unfold e7
     rw[if_pos ⟨ℓ,_,b,hl,hb,rfl,hnil,rfl⟩]
     exact hheap
    refine .p (.sl d enc l (some ⟨b.blk,0,none⟩) b.cap b.sz (fun i j=>vs.getD (i*b.sz+j) undef) hcap (fun a ha=>(hszs a ha).2) (fun a ha=>(hszs a ha).1) (fun i j hi hj=>⟨_,rfl,?_⟩) (by simp) (fun i a j u hi hu=>?_))
    ·rw[Addr.add_mk]
     have:i*b.sz+j<vs.size:=by
      rw[hsize]
      have:(i+1)*b.sz<=b.cap*b.sz:=Nat.mul_le_mul_right _ (by omega)
      rw[Nat.add_mul] at this
      omega
     unfold ae.cell
     simp only[hl1]
     simp[this]
    ·obtain⟨v,hv,hvr⟩:=hcell i a j u hi hu
     have:vs.getD (i*b.sz+j) undef=v:=by simp[hv]
     rw[this]
     exact hvr.mono hle
  ·rename_i α d enc l hl
   obtain⟨b,hb,hn,hs,hz,rfl⟩:=h.row_inv
   obtain⟨b',hb',hlen,hr⟩:=hM.blk _ _ hl
   rw[hb] at hb';cases hb'
   exact .p (hr.mono hle)
  ·exact h.mono hle (aw.le_refl _)
 ·rename_i ℓ o
  split
  ·rename_i t cells hl
   split
   ·rename_i hp
    obtain⟨b,hb,rfl⟩:=h.ptr_inv
    obtain⟨b',hb',vs,hheap,hvs,hS,hF⟩:=hM.blk _ _ hl
    rw[hb] at hb';cases hb'
    have hps:=(eQ hp hvs).1
    have hl1:e7 S ρ M w b.blk=some (.cells vs t (0,0)):=by
     unfold e7
     rw[if_pos ⟨ℓ,_,b,hl,hb,rfl,trivial,rfl⟩]
     exact hheap
    refine .p (.pd _ _ (fun j=>vs.getD (o+j) undef) (fun j hj=>?_) (fun j u hu=>?_))
    ·rw[Addr.add_mk]
     have hl2:=hps.1
     have:o+j<vs.size:=by simp at hj hl2;omega
     unfold ae.cell
     simp only[hl1]
     simp[this]
    ·rw[List.getElem?_drop] at hu
     obtain⟨v,hv,hvr⟩:=hps.2 _ u hu
     have hv':vs[o+j]? =some v:=by simpa using hv
     have:vs.getD (o+j) undef=v:=by simp[hv']
     rw[this]
     exact hvr.mono hle
   ·exact h.mono hle (aw.le_refl _)
  ·exact h.mono hle (aw.le_refl _)
 ·exact h.mono hle (aw.le_refl _)
theorem DU (hM:az S F ρ M w) {v:Value} {u:AV} (h:RV S ρ v u):RV (e7 S ρ M w) ρ v (DS M u):=by
 unfold DS
 split
 ·rename_i cs
  obtain⟨vs,rfl,hr⟩:=h.agg_inv
  have:ba (e7 S ρ M w) ρ vs.toList (cs.map (wv M)):=⟨by simpa using hr.1,fun i u hu=>by
   rw[List.getElem?_map] at hu
   obtain⟨u0,h0,rfl⟩:=Option.map_eq_some_iff.1 hu
   obtain⟨v,hv,hvr⟩:=hr.2 i u0 h0
   exact⟨v,hv,sQ hM hvr⟩⟩
  have:=RV.agg_mk this
  simpa using this
 ·rename_i f cs
  obtain⟨vs,rfl,hr⟩:=h.fn_inv
  have:ba (e7 S ρ M w) ρ vs.toList (cs.map (wv M)):=⟨by simpa using hr.1,fun i u hu=>by
   rw[List.getElem?_map] at hu
   obtain⟨u0,h0,rfl⟩:=Option.map_eq_some_iff.1 hu
   obtain⟨v,hv,hvr⟩:=hr.2 i u0 h0
   exact⟨v,hv,sQ hM hvr⟩⟩
  have:=RV.fn_mk f this
  simpa using this
 ·exact sQ hM h
theorem pr {S S':ae} {v:Value} {u:AV} (hf:uq u=true) (h:RP S v u):RP S' v u:=by
 cases h<;>first|(simp[uq] at hf;done)|constructor
theorem AY {S S':ae} {v:Value} {u:AV} (hf:AW u=true) (h:RP S v u):RP S' v u:=by
 cases u with
 |tup cs=>
  cases h with
  |tup _ vs hs vals he hv=>exact .tup cs vs hs vals he fun j u hu=>pr (List.all_eq_true.1 hf u (List.mem_of_getElem? hu)) (hv j u hu)
 |agg cs=>
  cases h with
  |agg _ vs hs vals he hv=>exact .agg cs vs hs vals he fun j u hu=>pr (List.all_eq_true.1 hf u (List.mem_of_getElem? hu)) (hv j u hu)
 |_=>exact pr hf h
noncomputable def nX (S':ae) (ρ:aw) (M:ah):ae:=fun k=>open Classical in if mg ρ M k then none else S' k
theorem rD {S':ae} {k:Nat} (h:mg ρ M k):nX S' ρ M k=none:=by unfold nX;rw[if_pos h]
theorem pu {S':ae} {k:Nat} (h:¬mg ρ M k):nX S' ρ M k=S' k:=by unfold nX;rw[if_neg h]
theorem ar.borrowG {f:FuncId} {args args':List AV} {R:AV->Prop} {K:AV->ah->Prop} (h:aa P f args' R) (hconv:∀S F ρ w vs,az S F ρ M w->ba S ρ vs args->lr (e7 S ρ M w) vs args') (hfl:∀u,R u->AW u=true) (hk:∀u,R u->K u M):ar P f args M K:=by
 rw[bP]
 rw[fG] at h
 refine⟨h.1,?_⟩
 intro S F ρ vs w hM hv
 have hle:=ur (S:=S) (F:=F) hM
 let own:Nat->Prop:=fun ℓ=>∃B,M ℓ=some B/\Fc B=true
 have hargs:=hconv S F ρ w vs hM hv
 have hsf:∀k,e7 S ρ M w k=none\/dB F ρ M w own k=none:=by
  intro k
  by_cases hr:mg ρ M k
  ·right
   obtain⟨ℓ,B,b,h1,h2,h3,h4,rfl⟩:=hr
   unfold dB
   rw[if_neg]
   ·exact(nk hM ⟨ℓ,B,b,h1,h2,h3,h4,rfl⟩).2.1
   ·rintro⟨y,C,c,g1,g2,g3,g4,g5⟩
    refine hM.inj y ℓ C _ c b g1 h1 g2 h2 g3 h4 (fun e=>?_) g4
    subst e
    exact g5 ⟨B,h1,h3⟩
  ·have e:e7 S ρ M w k=S k:=by unfold e7;rw[if_neg hr]
   rw[e]
   exact l6 hM k
 refine(h.2 (e7 S ρ M w) (dB F ρ M w own) vs w (hM.gl.mono hle) (AX hM) (kQ hM) hsf hargs).mono ?_
 rintro e w' ⟨v,u,S',rfl,hR,hle',hs,hf,hd,hr,hw⟩
 have hS2:S.le (nX S' ρ M):=by
  intro k o hk
  by_cases h:mg ρ M k
  ·rw[(nk hM h).1] at hk;cases hk
  ·rw[pu h];exact hle' k o (hle k o hk)
 have hS2':∀k o,nX S' ρ M k=some o->S' k=some o:=by
  intro k o hk
  by_cases h:mg ρ M k
  ·rw[rD h] at hk;cases hk
  ·rw[pu h] at hk;exact hk
 refine⟨v,u,M,nX S' ρ M,ρ,rfl,hk u hR,hS2,aw.le_refl _,⟨fun k o hk=>hs k o (hS2' k o hk),fun k o hk=>hf k o (iP hM k o hk),fun k=>?_,hM.dom,fun ℓ B hB=>?_,hM.inj,hM.gl.mono hS2⟩, .p (AY (hfl u hR) hr),hw⟩
 ·cases hk2:nX S' ρ M k with
  |none=>exact .inl rfl
  |some o=>
   right
   rcases hd k with h|h
   ·rw[hS2' k o hk2] at h;cases h
   ·cases hk:F k with
    |none=>rfl
    |some o'=>rw[iP hM k o' hk] at h;cases h
 ·obtain⟨b,hb,hrB⟩:=hM.blk _ _ hB
  refine⟨b,hb,hrB.keep hS2 (aw.le_refl _) fun hl=>?_⟩
  have hlt:=hrB.lt hl
  obtain⟨o,ho⟩:∃o,w.heap[b.blk]? =some o:=⟨_,Array.getElem?_eq_getElem hlt⟩
  have hSb:=(hrB.off hl).1
  by_cases hrow:mg ρ M b.blk
  ·have e1:e7 S ρ M w b.blk=some o:=by unfold e7;rw[if_pos hrow];exact ho
   refine⟨by rw[hs _ o (hle' _ o e1),ho],?_⟩
   rw[hSb,rD hrow]
  ·have hno:¬own ℓ:=by
    rintro⟨B',h1,h2⟩
    rw[hB] at h1
    cases h1
    exact hrow ⟨ℓ,B,b,hB,hb,h2,hl,rfl⟩
   have hk:=jn (F:=F) (w:=w) (own:=own) hB hb hl hno
   refine⟨by rw[hf b.blk o (hk.trans ho),ho],?_⟩
   rw[hSb,pu hrow]
   rcases hd b.blk with h|h
   ·exact h
   ·rw[hk,ho] at h;cases h
theorem ar.borrow {f:FuncId} {args:List AV} {R:AV->Prop} {K:AV->ah->Prop} {n:Nat} (h:aa P f (args.map (DS M)) R) (hp:(args.map (DS M)).all (b9 n)=true) (hfl:∀u,R u->AW u=true) (hk:∀u,R u->K u M):ar P f args M K:=
 ar.borrowG h (fun S F ρ w vs hM hv=>kP hp (S:=e7 S ρ M w) (ρ:=ρ) ⟨by simpa using hv.1,fun i u hu=>by
  rw[List.getElem?_map] at hu
  obtain⟨u0,h0,rfl⟩:=Option.map_eq_some_iff.1 hu
  obtain⟨v,hv1,hvr⟩:=hv.2 i u0 h0
  exact⟨v,hv1,DU hM hvr⟩⟩) hfl hk
theorem bE.leak {D:List Nat} {fr fr':List AV} {M':ah} (ℓ:Nat) {t:TypeId} {α:Type} {d:α} {enc:α->List AV} {l:List α} (hl:M ℓ=some (.row t d enc l))
  (h:bE D (fr.map (jq ℓ (.sl d enc l))) (M.set ℓ (.gone d enc l)) fr' M'):bE D fr M fr' M':=by
 rw[ik] at*
 intro S F ρ0 ρ a w h0 h1 hM hF
 obtain⟨S1,b,hle,hb,hM1,_⟩:=hM.leak hl
 obtain⟨S2,ρ2,k1,k2,k3,k4⟩:=h S1 F ρ0 ρ a w h0 h1 hM1 ⟨⟨by simpa using hF.1.1,fun i u hu=>by
  rw[List.getElem?_map] at hu
  obtain⟨u0,hu0,rfl⟩:=Option.map_eq_some_iff.1 hu
  obtain⟨v,e,hr⟩:=hF.1.2 i u0 hu0
  exact⟨v,e,jr hM1 (ah.set_eq _ _ _) (hr.mono hle (aw.le_refl _))⟩⟩,hF.2⟩
 exact⟨S2,ρ2,ae.le_trans hle k1,k2,k3,k4⟩
end
theorem lI {p:Prop} (h:p:=by simp only[List.length_cons,List.length_nil];omega):p:=h
theorem nI {c k:Prop} (h':k) (h:c:=by first|omega|(dsimp only;omega)):fX c k:=dA h h'
theorem aI {c:Prop} {n:Int} {K:Int->Prop} (h':K n) (hc:c:=by exact trivial) (h:-9223372036854775808<=n/\n<=9223372036854775807:=by omega):jk c .i64 n K:=G7 hc h h'
theorem uI {c:Prop} {n:Int} {K:Int->Prop} (h':K n) (hc:c:=by exact trivial) (h:0<=n/\n<=18446744073709551615:=by omega):jk c .u64 n K:=Je hc h h'
theorem vI {c:Prop} {n:Int} {K:Int->Prop} (h':K n) (hc:c:=by exact trivial) (h:0<=n/\n<=255:=by omega):jk c .u8 n K:=Jf hc h h'
theorem tI {p:Prop} {i:Decidable p} {k:Bool->Prop} (h':k true) (h:p:=by omega):tT p i k:=fc h h'
theorem fI {p:Prop} {i:Decidable p} {k:Bool->Prop} (h':k false) (h:¬p:=by omega):tT p i k:=fE h h'
theorem dI {P:Program} {tt:TT} {ops:List Oper} {fr:List AV} {M:ah} {K:List AV->ah->Prop} (h:dq P tt (some .any) ops ops fr M K) (hB:fo tt .any ops=true:=by decide+kernel):eZ P tt ops fr M K:=Fa hB h
theorem dR {P:Program} {tt:TT} {ops:List Oper} {fr:List AV} {M:ah} {K:List AV->ah->Prop} (h:dq P tt (some .rows) ops ops fr M K) (hB:fo tt .rows ops=true:=by decide+kernel):eZ P tt ops fr M K:=Hj hB h
theorem dP {P:Program} {tt:TT} {ops:List Oper} {fr:List AV} {M:ah} {K:List AV->ah->Prop} (h:dq P tt (some .pers) ops ops fr M K) (hB:fo tt .pers ops=true:=by decide+kernel):eZ P tt ops fr M K:=Hl hB h
theorem pI {α β:Type} {enc:α->List AV} {l:List α} {enc':β->List AV} {l':List β} {bytes:Nat} {K:List α->Prop} (l'':List α) (h:l''.map enc=l'.map enc') (hk:K l'')
  (hb:(l.length+l'.length)*bytes<=140737488355328:=by first|omega|(dsimp only;omega)|(simp only[List.length_cons,List.length_nil,List.length_append];omega)):tW enc l enc' l' bytes K:=eC l'' h hb hk
theorem at_ {g k:Prop} (h':k) (h:k->g:=by first|exact fun h=>nI h|exact fun h=>aI h|exact fun h=>Je trivial (by omega) h|exact fun h=>Jf trivial (by omega) h|exact fun h=>dI h|exact fun h=>dR h|exact fun h=>dP h|exact fun h=>am rfl h|exact fun h=>pI _ rfl h|exact fun h=>ak _ rfl h|exact fun h=>tI h|exact fun h=>fI h):g:=h h'
theorem oP {P:Program} {M:ah} {f:FuncId} {args:List AV} {v:AV} {K:AV->ah->Prop} (h:aa P f args (fun u=>u=v)) (hk:K v M) (hp:args.all (b9 5)=true:=by exact rfl):ar P f args M K:=
 ar.of_pure (n:=5) h hp fun u hu=>by subst hu;exact hk
theorem oC {P:Program} {f:FuncId} {args:List AV} {v:AV} {K:AV->Prop} (h:aa P f args (fun u=>u=v)) (hk:K v) (hp:args.all (b9 5)=true:=by exact rfl):o9 P f args K:=
 sJ 5 h hp ⟨_,rfl⟩ fun u hu=>by subst hu;exact hk
theorem dC {P:Program} {M:ah} {f:FuncId} {args:List AV} {p:Prop} {i:Decidable p} {K:AV->ah->Prop} (h:aa P f args (fun u=>u= .bool (@decide p i))) (ht:p->K (.bool true) M) (hf:¬p->K (.bool false) M) (hp:args.all (b9 5)=true:=by exact rfl):ar P f args M K:=
 ar.dcall (n:=5) h hp ht hf
theorem dD {P:Program} {f:FuncId} {args:List AV} {p:Prop} {i:Decidable p} {K:AV->Prop} (h:aa P f args (fun u=>u= .bool (@decide p i))) (ht:p->K (.bool true)) (hf:¬p->K (.bool false)) (hp:args.all (b9 5)=true:=by exact rfl):o9 P f args K:=
 Hn 5 h hp ht hf
end
section
def eT (f:Nat->Option LM) (ρ:aw):aw:=fun x=>match f x with
 |some (.old ℓ)=>ρ ℓ
 |some (.nil sz)=>some ⟨0,0,0,sz,true⟩
 |none=>none
def AZ (f:Nat->Option LM) (M:ah) (x:Nat) (B':bj):Prop:=
 match f x with
 |some (.old ℓ)=>∃B,M ℓ=some B/\(B'= .dead\/((∀b,B'.live b->B.live b)/\∀S F ρ w b,dM S F ρ w b B->dM S F (eT f ρ) w b B'))
 |some (.nil _)=>(∃(t:TypeId) (α:Type) (d:α) (enc:α->List AV),B'= .row t d enc [])\/∃t g,B'= .hdr t g 0
 |none=>False
structure nl (f:Nat->Option LM) (M M':ah):Prop where
 tell:∀x B',M' x=some B'->AZ f M x B'
 keys:∀x y,f x=some y->M' x≠none
 olds:∀a b ℓ,f a=some (.old ℓ)->f b=some (.old ℓ)->M' a≠some .dead->M' b≠some .dead->a=b
section
variable {S F:ae} {ρ:aw} {M M':ah} {w:World} {P:Program} {tt:TT} {f:Nat->Option LM}
theorem nl.live (h:nl f M M') {x:Nat} {B':bj} (hB:M' x=some B') {b:dZ} (hb:eT f ρ x=some b) (hl:B'.live b):∃ℓ B,f x=some (.old ℓ)/\M ℓ=some B/\ρ ℓ=some b/\B.live b/\B'≠ .dead:=by
 have ht:=h.tell x B' hB
 unfold AZ at ht
 unfold eT at hb
 cases hf:f x with
 |none=>rw[hf] at hb;cases hb
 |some y=>
  rw[hf] at hb ht
  cases y with
  |old ℓ=>
   obtain⟨B,h1,h2⟩:=ht
   rcases h2 with rfl|⟨h2,h3⟩
   ·exact hl.elim
   ·exact⟨ℓ,B,rfl,h1,hb,h2 b hl,fun e=>by subst e;exact hl⟩
  |nil sz=>
   simp only[Option.some.injEq] at hb
   subst hb
   rcases ht with ⟨t,α,d,enc,rfl⟩|⟨t,g,rfl⟩
   ·simp[bj.live] at hl
   ·simp[bj.live] at hl
theorem az.relabelG (hM:az S F ρ M w) (h:nl f M M'):az S F (eT f ρ) M' w:=by
 refine⟨hM.sw,hM.fw,hM.sf,fun x b hb=>?_,fun x B' hB'=>?_,fun x y B C b c h1 h2 h3 h4 h5 h6 hne=>?_,hM.gl⟩
 ·cases hf:f x with
  |none=>unfold eT at hb;rw[hf] at hb;cases hb
  |some y=>exact h.keys x y hf
 ·have ht:=h.tell x B' hB'
  unfold AZ at ht
  cases hf:f x with
  |none=>rw[hf] at ht;exact ht.elim
  |some y=>
   rw[hf] at ht
   cases y with
   |old ℓ=>
    obtain⟨B,h1,h2⟩:=ht
    obtain⟨b,hb,hr⟩:=hM.blk _ _ h1
    refine⟨b,by unfold eT;rw[hf];exact hb,?_⟩
    rcases h2 with rfl|⟨_,h3⟩
    ·trivial
    ·exact h3 S F ρ w b hr
   |nil sz=>
    refine⟨⟨0,0,0,sz,true⟩,by unfold eT;rw[hf],?_⟩
    rcases ht with ⟨t,α,d,enc,rfl⟩|⟨t,g,rfl⟩
    ·exact⟨rfl,by simp, .inl ⟨rfl,rfl,rfl⟩⟩
    ·exact⟨[],rfl,fun i hi=>absurd hi (Nat.not_lt_zero _),rfl,by simp, .inl ⟨rfl,rfl,rfl⟩⟩
 ·obtain⟨ℓ1,B1,f1,m1,r1,l1,d1⟩:=h.live h1 h3 h5
  obtain⟨ℓ2,B2,f2,m2,r2,l2,d2⟩:=h.live h2 h4 h6
  refine hM.inj ℓ1 ℓ2 B1 B2 b c m1 m2 r1 r2 l1 l2 fun e=>?_
  subst e
  exact hne (h.olds x y ℓ1 f1 f2 (fun e=>d1 (by rw[h1] at e;exact Option.some.inj e)) (fun e=>d2 (by rw[h2] at e;exact Option.some.inj e)))
def rE (f:Nat->Option LM) (us us':List AV):Prop:=∀S ρ vs,ba S ρ vs us->ba S (eT f ρ) vs us'
def rF (f:Nat->Option LM) (u u':AV):Prop:=∀S ρ v,RV S ρ v u->RV S (eT f ρ) v u'
theorem xx {lm:c9} (h:∀k y,aQ lm k=some y->f k=some y):aw.le (bG lm ρ) (eT f ρ):=by
 intro x b hb
 unfold bG at hb
 unfold eT
 cases hf:aQ lm x with
 |none=>rw[hf] at hb;cases hb
 |some y=>
  rw[hf] at hb
  rw[h x y hf]
  cases y with
  |old ℓ=>exact hb
  |nil sz=>exact hb
theorem rE.by_ {lm:c9} (n:Nat) {us us':List AV} (h:∀k y,aQ lm k=some y->f k=some y) (ha:g8 lm n us us'):rE f us us':=
 fun _ _ vs hv=>((jp n).2 us us' vs ha hv).mono (ae.le_refl _) (xx h)
theorem rF.by_ {lm:c9} (n:Nat) {u u':AV} (h:∀k y,aQ lm k=some y->f k=some y) (ha:kR lm n u u'):rF f u u':=
 fun _ _ v hv=>((jp n).1 u u' v ha hv).mono (ae.le_refl _) (xx h)
theorem rF.row {ℓ ℓ' n sz:Nat} (h:f ℓ'=some (.old ℓ)):rF f (.row ℓ n sz) (.row ℓ' n sz):=fun S ρ v hv=>by
 obtain⟨b,hb,h1,h2,h3,rfl⟩:=hv.row_inv
 exact .row ℓ' n sz b (by unfold eT;rw[h];exact hb) h1 h2 h3
theorem rE.one {u u':AV} (h:rF f u u'):rE f [u] [u']:=fun S ρ vs hv=>by
 obtain⟨v,vs',rfl,h1,h2⟩:=hv.cons_inv
 cases h2.nil_inv
 exact ba.cons (h S ρ v h1) (ba.nil _ _)
def rG (N2 M:ah):ah:=fun x=>match N2 x with
 |some B=>some B
 |none=>M x
theorem ar.callG {g:FuncId} {args args':List AV} {K R:AV->ah->Prop} (f1:Nat->Option LM) (M0:ah) (hr1:nl f1 M M0) (ha:rE f1 args args') (h:ar P g args' M0 R)
  (hk:∀u M',R u M'->∃(f2:Nat->Option LM) (N2:ah) (u':AV),nl f2 M' N2/\(∀x ℓ,f1 x=some (.old ℓ)->f2 ℓ=some (.old x))/\(∀ℓ y,f2 ℓ=some y->(∃x,f1 x=some (.old ℓ))\/M ℓ=none)/\rF f2 u u'/\K u' (rG N2 M)):ar P g args M K:=by
 rw[bP] at h⊢
 refine⟨h.1,fun S F ρ vs w hM hv=>?_⟩
 let own:Nat->Prop:=fun ℓ=>∃x,f1 x=some (.old ℓ)
 have hMr:=hM.relabelG hr1
 have hlive:∀x B' b,M0 x=some B'->eT f1 ρ x=some b->B'.live b->dB F ρ M w own b.blk=none:=by
  intro x B' b hB' hb hl
  obtain⟨b',hb',hr'⟩:=hMr.blk _ _ hB'
  rw[hb] at hb';cases hb'
  have hFb:=(hr'.off hl).2
  obtain⟨ℓ,B,hf,hML,hρ,hBl,_⟩:=hr1.live hB' hb hl
  unfold dB
  rw[if_neg]
  ·exact hFb
  ·rintro⟨y,C,c,g1,g2,g3,g4,g5⟩
   refine hM.inj y ℓ C B c b g1 hML g2 hρ g3 hBl (fun e=>?_) g4
   subst e
   exact g5 ⟨x,hf⟩
 have hMc:=hMr.reF (kQ (own:=own) hM) (l6 hM) hlive
 refine(h.2 S (dB F ρ M w own) (eT f1 ρ) vs w hMc (ha S ρ vs hv)).mono ?_
 rintro e w' ⟨v,u,M',S',ρ',rfl,hR,hle,hρ,hM',hr,hw⟩
 obtain⟨f2,N2,u',hr2,hb3,hb4,hau,hK⟩:=hk u M' hR
 have hM2:=hM'.relabelG hr2
 let ρ2:aw:=fun ℓ=>match eT f2 ρ' ℓ with
  |some b=>some b
  |none=>ρ ℓ
 have hle1:aw.le (eT f2 ρ') ρ2:=fun ℓ b hb=>by show(match eT f2 ρ' ℓ with|some b=>some b|none=>ρ ℓ)=_;rw[hb]
 have hle2:aw.le ρ ρ2:=by
  intro ℓ b hb
  show(match eT f2 ρ' ℓ with|some b=>some b|none=>ρ ℓ)=_
  cases hf:f2 ℓ with
  |none=>
   have:eT f2 ρ' ℓ=none:=by unfold eT;rw[hf]
   rw[this];exact hb
  |some y=>
   rcases hb4 ℓ y hf with ⟨x,hx⟩|hn
   ·have he:eT f1 ρ x=some b:=by unfold eT;rw[hx];exact hb
    have h2:eT f2 ρ' ℓ=some b:=by unfold eT;rw[hb3 x ℓ hx];exact hρ _ _ he
    rw[h2]
   ·exact absurd hn (hM.dom ℓ b hb)
 have hF:∀k o,F k=some o->dB F ρ M w own k=some o:=iP hM
 have framed:∀ℓ B b,N2 ℓ=none->M ℓ=some B->ρ ℓ=some b->B.live b->dB F ρ M w own b.blk=w.heap[b.blk]?:=by
  intro ℓ B b h0 h1 h2 h3
  exact jn h1 h2 h3 fun⟨x,hf⟩=>hr2.keys ℓ _ (hb3 x ℓ hf) h0
 refine⟨v,u',rG N2 M,S',ρ2,rfl,hK,hle,hle2,⟨hM'.sw,fun k o hk=>hM'.fw k o (hF k o hk),fun k=>?_,fun ℓ b hb=>?_,fun ℓ B hB=>?_,fun x y B C b c h1 h2 h3 h4 h5 h6 hne=>?_,hM'.gl⟩,(hau S' ρ' v hr).mono (ae.le_refl _) hle1,hw⟩
 ·rcases hM'.sf k with h1|h1
  ·exact .inl h1
  ·right
   cases hk:F k with
   |none=>rfl
   |some o=>rw[hF k o hk] at h1;cases h1
 ·unfold rG
  cases h2:N2 ℓ with
  |some B=>simp
  |none=>
   have hb:(match eT f2 ρ' ℓ with|some b=>some b|none=>ρ ℓ)=some b:=hb
   cases h3:eT f2 ρ' ℓ with
   |some b'=>exact absurd h2 (hM2.dom _ _ h3)
   |none=>rw[h3] at hb;exact hM.dom _ _ hb
 ·unfold rG at hB
  cases h2:N2 ℓ with
  |some B'=>
   rw[h2] at hB
   cases hB
   obtain⟨b,hb,hr3⟩:=hM2.blk _ _ h2
   refine⟨b,hle1 _ _ hb,(hr3.keep (ae.le_refl _) hle1 fun _=>⟨rfl,rfl⟩).reF fun hl=>?_⟩
   have:=(hr3.off hl).2
   cases hk:F b.blk with
   |none=>rfl
   |some o=>rw[hF _ o hk] at this;cases this
  |none=>
   rw[h2] at hB
   obtain⟨b,hb,hr3⟩:=hM.blk _ _ hB
   refine⟨b,hle2 _ _ hb,hr3.keep hle hle2 fun hl=>?_⟩
   have hk:=framed ℓ B b h2 hB hb hl
   obtain⟨o,ho⟩:∃o,w.heap[b.blk]? =some o:=⟨_,Array.getElem?_eq_getElem (hr3.lt hl)⟩
   refine⟨by rw[hM'.fw _ o (hk.trans ho),ho],?_⟩
   rw[(hr3.off hl).1]
   rcases hM'.sf b.blk with h1|h1
   ·exact h1
   ·rw[hk,ho] at h1;cases h1
 ·have back:∀z D d,rG N2 M z=some D->ρ2 z=some d->D.live d->(N2 z=some D/\eT f2 ρ' z=some d)\/(N2 z=none/\M z=some D/\ρ z=some d):=by
   intro z D d hD hd hl
   unfold rG at hD
   cases hz:N2 z with
   |some D'=>
    rw[hz] at hD;cases hD
    obtain⟨b',hb',_⟩:=hM2.blk _ _ hz
    have:=hle1 _ _ hb'
    rw[hd] at this;cases this
    exact .inl ⟨rfl,hb'⟩
   |none=>
    rw[hz] at hD
    obtain⟨b',hb',_⟩:=hM.blk _ _ hD
    have:=hle2 _ _ hb'
    rw[hd] at this;cases this
    exact .inr ⟨rfl,hD,hb'⟩
  have mixed:∀z D d z' D' d',N2 z=some D->eT f2 ρ' z=some d->D.live d->N2 z'=none->M z'=some D'->ρ z'=some d'->D'.live d'->d.blk≠d'.blk:=by
   intro z D d z' D' d' a1 a2 a3 a4 a5 a6 a7 e
   obtain⟨b',hb',hr3⟩:=hM2.blk _ _ a1
   rw[a2] at hb';cases hb'
   have h1:=(hr3.off a3).2
   have h2:=framed z' D' d' a4 a5 a6 a7
   obtain⟨c',hc',hr4⟩:=hM.blk _ _ a5
   rw[a6] at hc';cases hc'
   rw[e,h2,Array.getElem?_eq_getElem (hr4.lt a7)] at h1
   cases h1
  rcases back x B b h1 h3 h5 with ⟨p1,p2⟩|⟨p0,p1,p2⟩<;>rcases back y C c h2 h4 h6 with ⟨q1,q2⟩|⟨q0,q1,q2⟩
  ·exact hM2.inj x y B C b c p1 q1 p2 q2 h5 h6 hne
  ·exact mixed x B b y C c p1 p2 h5 q0 q1 q2 h6
  ·exact fun e=>mixed y C c x B b q1 q2 h6 p0 p1 p2 h5 e.symm
  ·exact hM.inj x y B C b c p1 q1 p2 q2 h5 h6 hne
open Classical in
noncomputable def ln (M0:ah) (D:List Nat) (M:ah):ah:=fun x=>if M0 x≠none/\x∉D then some .dead else M x
theorem nm {M0:ah} {D:List Nat} {M:ah} {x:Nat} (h:M0 x≠none) (h2:x∉D):ln M0 D M x=some .dead:=by
 unfold ln;rw[if_pos ⟨h,h2⟩]
theorem ar.introG (hT:aW P tt=true) (hm:P.follows .mixedOrders=true) {g:FuncId} {fn:Func} {c:Code} {args args':List AV} {M0 M1:ah} (f0:Nat->Option LM) (D:List Nat) {R:AV->ah->Prop} (hr:nl f0 M0 M1) (hD:∀d∈D,f0 d=some (.old d)) (ha:rE f0 args args')
  (hf:P.funcs[g]? =some fn) (hb:fn.body=some c) (hn:(fn.name== "runtime.NumGoroutine")=false)
  (h:oi args' (fn.ntmps-args'.length) fun fr=>cN P tt D c fr M1 (DR tt fn.results.toList fun u M=>(∀x,M0 x≠none->x∉D->M x=none)/\R u (ln M0 D M))):ar P g args M0 R:=by
 rw[bP]
 refine⟨gS hf hb hn,fun S F ρ vs w hM hv=>?_⟩
 have hM1:=hM.relabelG hr
 have hlen:=(ha S ρ vs hv).1
 let ρ0:aw:=fun x=>open Classical in if x∈D then ρ x else none
 have hρ0:∀x b,ρ0 x=some b->x∈D/\ρ x=some b:=by
  intro x b hx
  have hx:(open Classical in if x∈D then ρ x else none)=some b:=hx
  split at hx
  ·rename_i h1;exact⟨h1,hx⟩
  ·cases hx
 have hw:aR P D c (args'++List.replicate (fn.ntmps-args'.length) (.tup [])) M1 (DR tt fn.results.toList fun u M=>(∀x,M0 x≠none->x∉D->M x=none)/\R u (ln M0 D M)):=by
  rw[gq] at h;exact bw hT hm c _ _ _ h
 rw[cM] at hw
 refine calls_of_wp hf hb ?_
 have hvs:=ha S ρ vs hv
 have hF:dK S (eT f0 ρ) {tmps:=vs.toArray++Array.replicate (fn.ntmps-vs.toArray.size) undef,defers:=[]} (args'++List.replicate (fn.ntmps-args'.length) (.tup [])):=by
  refine⟨?_,rfl⟩
  have e:(vs.toArray++Array.replicate (fn.ntmps-vs.toArray.size) undef).toList=vs++List.replicate (fn.ntmps-args'.length) undef:=by simp[hlen]
  rw[e]
  refine hvs.append ⟨by simp,fun i u hu=>?_⟩
  have hi:=(List.getElem?_eq_some_iff.1 hu).1
  simp only[List.length_replicate] at hi
  have hu':u= .tup []:=by
   rw[List.getElem?_replicate] at hu
   simp[hi] at hu
   exact hu.symm
  subst hu'
  exact⟨undef,by simp[hi],RV.tup_mk (ba.nil _ _)⟩
 refine wp_mono (hw S F ρ0 (eT f0 ρ) _ w (fun ℓ b hb=>(hρ0 ℓ b hb).1) (fun ℓ b hb=>?_) hM1 hF) ?_
 ·obtain⟨h1,h2⟩:=hρ0 ℓ b hb
  unfold eT
  rw[hD ℓ h1]
  exact h2
 rintro e a' w' ⟨x,hx,ha'⟩
 have hd:a'.defers=[]:=by obtain⟨_,_,_,_,_,_,_,_,hF',_⟩:=ha';exact hF'.2
 obtain⟨fr,M',S',ρ',hk,h1,h2,h3,h4,h5⟩:=ha'
 have fin:(jS tt fr M' fn.results.toList fun us=>f5 us M' fun us' M''=>(∀x,M0 x≠none->x∉D->M'' x=none)/\R (d9 us') (ln M0 D M''))->∃v,(results fn a'.tmps).run P w'= .ok v w'/\iO S F ρ w R (.returned v) w':=by
  intro hk
  obtain⟨vs',us,hK,hvs',hl,hrr⟩:=gr hT h3 h4 _ _ hk
  obtain⟨us',M2,S2,⟨hq,hR⟩,hle,hvs2,hM2⟩:=eE _ _ _ _ _ hK hvs' h3
  let ρ2:aw:=fun x=>open Classical in if M0 x≠none/\x∉D then ρ x else ρ' x
  have hin:∀{x},¬(M0 x≠none/\x∉D)->ρ2 x=ρ' x:=fun{x} hh=>by show(open Classical in if M0 x≠none/\x∉D then ρ x else ρ' x)=_;rw[if_neg hh]
  have hout:∀{x},(M0 x≠none/\x∉D)->ρ2 x=ρ x:=fun{x} hh=>by show(open Classical in if M0 x≠none/\x∉D then ρ x else ρ' x)=_;rw[if_pos hh]
  have hle2:aw.le ρ' ρ2:=by
   intro x b hb
   rw[hin,hb]
   rintro⟨h6,h7⟩
   exact hM2.dom x b hb (hq x h6 h7)
  have hle3:aw.le ρ ρ2:=by
   intro x b hb
   by_cases hh:M0 x≠none/\x∉D
   ·rw[hout hh,hb]
   ·rw[hin hh]
    have hx0:=hM.dom x b hb
    have hxD:x∈D:=Classical.not_not.1 fun h8=>hh ⟨hx0,h8⟩
    refine h2 x b ?_
    show(open Classical in if x∈D then ρ x else none)=some b
    rw[if_pos hxD,hb]
  have get:∀x B,ln M0 D M2 x=some B->(∃b,ρ2 x=some b/\B.live b)->M2 x=some B/\ρ2 x=ρ' x:=by
   rintro x B hB ⟨b,_,hl⟩
   by_cases hh:M0 x≠none/\x∉D
   ·rw[nm hh.1 hh.2] at hB;cases hB;exact hl.elim
   ·unfold ln at hB
    rw[if_neg hh] at hB
    exact⟨hB,hin hh⟩
  refine⟨_,dV hrr,_,_,ln M0 D M2,S2,ρ2,rfl,hR,ae.le_trans h1 hle,hle3,⟨hM2.sw,hM2.fw,hM2.sf,fun x b hb=>?_,fun x B hB=>?_,fun x y B C b c g1 g2 g3 g4 g5 g6 hne=>?_,hM2.gl⟩,(gR hvs2).mono (ae.le_refl _) hle2,h5⟩
  ·by_cases hh:M0 x≠none/\x∉D
   ·rw[nm hh.1 hh.2];simp
   ·rw[hin hh] at hb
    unfold ln
    rw[if_neg hh]
    exact hM2.dom x b hb
  ·by_cases hh:M0 x≠none/\x∉D
   ·rw[nm hh.1 hh.2] at hB
    cases hB
    cases hM0:M0 x with
    |none=>exact absurd hM0 hh.1
    |some B0=>
     obtain⟨b,hb,_⟩:=hM.blk x B0 hM0
     exact⟨b,by rw[hout hh,hb],trivial⟩
   ·unfold ln at hB
    rw[if_neg hh] at hB
    obtain⟨b,hb,hrb⟩:=hM2.blk x B hB
    exact⟨b,by rw[hin hh,hb],hrb.keep (ae.le_refl _) hle2 fun _=>⟨rfl,rfl⟩⟩
  ·obtain⟨k1,k2⟩:=get x B g1 ⟨b,g3,g5⟩
   obtain⟨k3,k4⟩:=get y C g2 ⟨c,g4,g6⟩
   rw[k2] at g3
   rw[k4] at g4
   exact hM2.inj x y B C b c k1 k3 g3 g4 g5 g6 hne
 cases x with
 |normal=>
  obtain⟨v,hv1,hv2⟩:=fin hk
  cases e<;>first|exact⟨hd,v,hv1,hv2⟩|(cases hx;done)
 |ret=>
  obtain⟨v,hv1,hv2⟩:=fin hk
  cases e<;>first|exact⟨hd,v,hv1,hv2⟩|(cases hx;done)
 |exit i=>exact hk.elim
end
end
section
section
variable {M:ah} {P:Program} {tt:TT}
structure Ho (P:Program) (tt:TT) (D:List Nat) (c:Code) (fr:List AV) (M:ah) (Q:cq):Prop where
 out:∃fr' M',bE D fr M fr' M'/\cN P tt D c fr' M' Q
theorem bE.refl (D:List Nat) (fr:List AV) (M:ah):bE D fr M fr M:=by
 rw[ik]
 intro S F ρ0 ρ a w h0 h1 hM hF
 exact⟨S,ρ,ae.le_refl _,h1,hM,hF⟩
theorem aR.loopM {D:List Nat} (hT:aW P tt=true) (hm:P.follows .mixedOrders=true) {c:Code} {fr:List AV} {M:ah} {Q:cq} {X:Type _} (I:X->Prop) (us:X->List (Nat×AV)) (Mf:X->ah) (μ:X->Nat) (x0:X) (hi:I x0)
  (h:nj (jO c []) fun ms=>nW fr 0 ms fun fr0=>bE D fr M (kr fr0 (us x0)) (Mf x0)/\
   ∀x,I x->rC fr0 (us x) fun fr1=>Ho P tt D c fr1 (Mf x) (kq D I (fun x=>kr fr0 (us x)) Mf μ x Q)):aR P D (.loop c) fr M Q:=by
 rw[kV] at h
 obtain⟨fr0,h0,h⟩:=iU _ _ _ _ h
 refine aR.loop I (fun x=>kr fr0 (us x)) Mf μ x0 hi h0 fun x hx=>?_
 have:=h x hx
 rw[mf] at this
 obtain⟨fr2,M2,hs,hc⟩:=this.out
 exact aR.sub hs (bw hT hm _ _ _ _ hc)
end
end
end Go.Proofs.YtblcpnmnibcbbaaGreatDoor
