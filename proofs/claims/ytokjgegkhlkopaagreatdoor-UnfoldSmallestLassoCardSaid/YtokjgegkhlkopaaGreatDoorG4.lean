import Derived.Test.YtokjgegkhlkopaaGreatDoorG3
import Derived.Scope
set_option linter.unusedVariables false
set_option linter.unusedSimpArgs false
namespace Go.Proofs.YtokjgegkhlkopaaGreatDoor
section
inductive LU
 |normal
 |exit (id:Nat)
 |ret
def BZ:Exit->Option LU
 | .normal=>some .normal
 | .exit id=>some (.exit id)
 | .ret=>some .ret
 |_=>none
abbrev bR:=LU->List AV->ai->Prop
def gZ (ρ:aw) (D:List Nat):Prop:=∀ℓ b,ρ ℓ=some b->ℓ∈D
structure aE (P:Program) (D:List Nat) (c:Code) (fr:List AV) (M:ai) (Q:bR):Prop where
 out:∀S F ρ0 ρ a w,gZ ρ0 D->aw.le ρ0 ρ->ax S F ρ M w->ei S ρ a fr->c.wp P (fun e a' w'=>∃x,BZ e=some x/\cI S F ρ0 w (Q x) a' w') a w
theorem cp {P:Program} {D:List Nat} {c:Code} {fr:List AV} {M:ai} {Q:bR}:aE P D c fr M Q↔(∀S F ρ0 ρ a w,gZ ρ0 D->aw.le ρ0 ρ->ax S F ρ M w->ei S ρ a fr->c.wp P (fun e a' w'=>∃x,BZ e=some x/\cI S F ρ0 w (Q x) a' w') a w):=⟨fun h=>h.out,fun h=>⟨h⟩⟩
structure g7 (P:Program) (tt:TT) (ops:List Oper) (fr:List AV) (M:ai) (K:List AV->ai->Prop):Prop where
 out:(∃r,f6 tt r ops=true/\fW P tt (some r) ops ops fr M K)\/(∃r ds,ku tt r ds ops=true/\tQ P tt r ds ops ops fr M K)\/∃d,bH P tt d ops K ops.length [] fr M
theorem dW {P:Program} {tt:TT} {ops:List Oper} {fr:List AV} {M:ai} {K:List AV->ai->Prop}:g7 P tt ops fr M K↔((∃r,f6 tt r ops=true/\fW P tt (some r) ops ops fr M K)\/(∃r ds,ku tt r ds ops=true/\tQ P tt r ds ops ops fr M K)\/∃d,bH P tt d ops K ops.length [] fr M):=⟨fun h=>h.out,fun h=>⟨h⟩⟩
theorem IX {P:Program} {tt:TT} {ops:List Oper} {fr:List AV} {M:ai} {K:List AV->ai->Prop} (hB:f6 tt .any ops=true) (h:fW P tt (some .any) ops ops fr M K):g7 P tt ops fr M K:=by
 rw[dW];exact .inl ⟨_,hB,h⟩
theorem LV {P:Program} {tt:TT} {ops:List Oper} {fr:List AV} {M:ai} {K:List AV->ai->Prop} (hB:f6 tt .rows ops=true) (h:fW P tt (some .rows) ops ops fr M K):g7 P tt ops fr M K:=by
 rw[dW];exact .inl ⟨_,hB,h⟩
theorem eC {P:Program} {tt:TT} {ops:List Oper} {fr:List AV} {M:ai} {K:List AV->ai->Prop} (hB:f6 tt .fresh ops=true) (h:fW P tt (some .fresh) ops ops fr M K):g7 P tt ops fr M K:=by
 rw[dW];exact .inl ⟨_,hB,h⟩
theorem IY {P:Program} {tt:TT} {ops:List Oper} {fr:List AV} {M:ai} {K:List AV->ai->Prop} (hB:f6 tt .flat ops=true) (h:fW P tt (some .flat) ops ops fr M K):g7 P tt ops fr M K:=by
 rw[dW];exact .inl ⟨_,hB,h⟩
theorem LW {P:Program} {tt:TT} {ops:List Oper} {fr:List AV} {M:ai} {K:List AV->ai->Prop} (as:List (Nat×Nat)) (hB:f6 tt (.boxes as) ops=true) (h:fW P tt (some (.boxes as)) ops ops fr M K):g7 P tt ops fr M K:=by
 rw[dW];exact .inl ⟨_,hB,h⟩
theorem LX {P:Program} {tt:TT} {ops:List Oper} {fr:List AV} {M:ai} {K:List AV->ai->Prop} (h:bH P tt (some .own) ops K ops.length [] fr M):g7 P tt ops fr M K:=by
 rw[dW];exact .inr (.inr ⟨_,h⟩)
theorem LY {P:Program} {tt:TT} {ops:List Oper} {fr:List AV} {M:ai} {K:List AV->ai->Prop} (h:bH P tt none ops K ops.length [] fr M):g7 P tt ops fr M K:=by
 rw[dW];exact .inr (.inr ⟨_,h⟩)
theorem LZ {P:Program} {tt:TT} {ops:List Oper} {fr:List AV} {M:ai} {K:List AV->ai->Prop} (hB:f6 tt .pers ops=true) (h:fW P tt (some .pers) ops ops fr M K):g7 P tt ops fr M K:=by
 rw[dW];exact .inl ⟨_,hB,h⟩
def fx (P:Program) (tt:TT) (D:List Nat):Code->List AV->ai->bR->Prop
 | .skip,fr,M,Q=>Q .normal fr M
 | .region _ ops draw,fr,M,Q=>match draw with
  |false=>fW P tt none ops.toList ops.toList fr M (Q .normal)
  |true=>g7 P tt ops.toList fr M (Q .normal)
 | .seq a b,fr,M,Q=>fx P tt D a fr M fun e fr' M'=>match e with
  | .normal=>fx P tt D b fr' M' Q
  | .exit i=>Q (.exit i) fr' M'
  | .ret=>Q .ret fr' M'
 | .cond c x y,fr,M,Q=>LT fr c fun u=>match u with
  | .bool true=>fx P tt D x fr M Q
  | .bool false=>fx P tt D y fr M Q
  |_=>False
 | .block id c,fr,M,Q=>fx P tt D c fr M fun e fr' M'=>match e with
  | .normal=>Q .normal fr' M'
  | .exit i=>match Nat.beq i id with
   |true=>Q .normal fr' M'
   |false=>Q (.exit i) fr' M'
  | .ret=>Q .ret fr' M'
 | .exit id,fr,M,Q=>Q (.exit id) fr M
 | .ret,fr,M,Q=>Q .ret fr M
 | .loop c,fr,M,Q=>aE P D (.loop c) fr M Q
 | .rangeFunc f ps as c,fr,M,Q=>aE P D (.rangeFunc f ps as c) fr M Q
 | .scope c,fr,M,Q=>fx P tt D c fr M Q
 | .label _,fr,M,Q=>Q .normal fr M
 | .goto l,fr,M,Q=>aE P D (.goto l) fr M Q
 | .refuse s,fr,M,Q=>aE P D (.refuse s) fr M Q
section
variable {P:Program} {tt:TT} {D:List Nat}
theorem aE.mono {c:Code} {fr:List AV} {M:ai} {Q Q':bR} (h:aE P D c fr M Q) (hq:∀e f M,Q e f M->Q' e f M):aE P D c fr M Q':=by
 simp only[cp] at*
 intro S F ρ0 ρ a w h0 h1 hM hF
 exact wp_mono (h S F ρ0 ρ a w h0 h1 hM hF) fun e a' w' ⟨x,hx,ha⟩=>⟨x,hx,ha.mono fun f M=>hq x f M⟩
theorem aZ (hT:aW P tt=true) (hm:P.follows .mixedOrders=true):∀(c:Code) (fr:List AV) (M:ai) (Q:bR),fx P tt D c fr M Q->aE P D c fr M Q:=by
 intro c
 induction c with
 |skip=>
  intro fr M Q h
  rw[cp]
  intro S F ρ0 ρ a w h0 h1 hM hF
  exact wp_skip ⟨.normal,rfl,fr,M,S,ρ,h,ag.le_refl _,h1,hM,hF,ce.refl _⟩
 |region id ops draw=>
  intro fr M Q h
  rw[cp]
  intro S F ρ0 ρ a w h0 h1 hM hF
  simp only[fx] at h
  have hQ:∀a' w',cI S F ρ w (Q .normal) a' w'->∃x,BZ .normal=some x/\cI S F ρ0 w (Q x) a' w':=fun a' w' ⟨f,M',S',ρ',k,k1,k2,k3⟩=>⟨.normal,rfl,f,M',S',ρ',k,k1,aw.le_trans h1 k2,k3⟩
  have e:ops=ops.toList.toArray:=by simp
  cases draw with
  |false=>
   rw[e]
   exact wp_region_lit (u5 hT ops.toList S ρ w a fr M h hM hF hQ)
  |true=>
   simp only at h
   rw[dW] at h
   rw[e]
   rcases h with ⟨r,h1,h2⟩|⟨r,ds,h1,h2⟩|⟨d,h2⟩
   ·exact wU hT hm h1 h2 hM hF hQ
   ·exact u9 hT hm h1 h2 hM hF hQ
   ·exact vb hT hm h2 hM hF hQ
 |seq x y ihx ihy=>
  intro fr M Q h
  have hx:=ihx fr M _ h
  simp only[cp] at*
  intro S F ρ0 ρ a w h0 h1 hM hF
  refine wp_seq (wp_mono (hx S F ρ0 ρ a w h0 h1 hM hF) ?_)
  rintro e a' w' ⟨ex,he,f,M',S',ρ',k,k1,k2,k3,k4,k5⟩
  cases e with
  |normal=>
   cases he
   refine wp_mono (ihy f M' Q k S' F ρ0 ρ' a' w' h0 k2 k3 k4) ?_
   rintro e2 a2 w2 ⟨ex2,he2,ha⟩
   exact⟨ex2,he2,ha.trans k1 (aw.le_refl _) k5⟩
  |exit i=>cases he;exact⟨_,rfl,f,M',S',ρ',k,k1,k2,k3,k4,k5⟩
  |ret=>cases he;exact⟨_,rfl,f,M',S',ρ',k,k1,k2,k3,k4,k5⟩
  |goto l=>cases he
  |panic l=>cases he
  |outgrown=>cases he
 |cond c x y ihx ihy=>
  intro fr M Q h
  simp only[fx,y5] at h
  rw[cp]
  intro S F ρ0 ρ a w h0 h1 hM hF
  have hc:=hF.eval c
  split at h
  ·rename_i hb
   rw[hb] at hc
   have:=ihx fr M Q h
   rw[cp] at this
   exact wp_cond_true hc.bool_inv (this S F ρ0 ρ a w h0 h1 hM hF)
  ·rename_i hb
   rw[hb] at hc
   have:=ihy fr M Q h
   rw[cp] at this
   exact wp_cond_false hc.bool_inv (this S F ρ0 ρ a w h0 h1 hM hF)
  ·exact h.elim
 |block id c ih=>
  intro fr M Q h
  have hx:=ih fr M _ h
  simp only[cp] at*
  intro S F ρ0 ρ a w h0 h1 hM hF
  refine wp_block (wp_mono (hx S F ρ0 ρ a w h0 h1 hM hF) ?_)
  rintro e a' w' ⟨ex,he,f,M',S',ρ',k,k1,k2,k3,k4,k5⟩
  cases e with
  |normal=>cases he;exact⟨_,rfl,f,M',S',ρ',k,k1,k2,k3,k4,k5⟩
  |exit i=>
   cases he
   simp only[Exit.inBlock]
   simp only at k
   split at k
   ·rename_i hb
    rw[if_pos (Nat.eq_of_beq_eq_true hb)]
    exact⟨_,rfl,f,M',S',ρ',k,k1,k2,k3,k4,k5⟩
   ·rename_i hb
    rw[if_neg (fun e=>by subst e;simp at hb)]
    exact⟨_,rfl,f,M',S',ρ',k,k1,k2,k3,k4,k5⟩
  |ret=>cases he;exact⟨_,rfl,f,M',S',ρ',k,k1,k2,k3,k4,k5⟩
  |goto l=>cases he
  |panic l=>cases he
  |outgrown=>cases he
 |exit id=>
  intro fr M Q h
  rw[cp]
  intro S F ρ0 ρ a w h0 h1 hM hF
  exact wp_exit ⟨_,rfl,fr,M,S,ρ,h,ag.le_refl _,h1,hM,hF,ce.refl _⟩
 |ret=>
  intro fr M Q h
  rw[cp]
  intro S F ρ0 ρ a w h0 h1 hM hF
  exact wp_ret ⟨_,rfl,fr,M,S,ρ,h,ag.le_refl _,h1,hM,hF,ce.refl _⟩
 |loop c _=>intro fr M Q h;exact h
 |rangeFunc f ps as c _ _=>intro fr M Q h;exact h
 |scope c ih=>
  intro fr M Q h
  have h2:=ih fr M Q h
  rw[cp] at h2⊢
  intro S F ρ0 ρ a w h0 h1 hM hF
  refine wp_scope_straight (wp_mono (h2 S F ρ0 ρ a w h0 h1 hM hF) ?_)
  rintro e a' w' ⟨x,hx,ha⟩
  cases e with
  |goto l=>cases hx
  |normal=>exact⟨x,hx,ha⟩
  |exit i=>exact⟨x,hx,ha⟩
  |ret=>exact⟨x,hx,ha⟩
  |panic l=>cases hx
  |outgrown=>cases hx
 |label l=>
  intro fr M Q h
  rw[cp]
  intro S F ρ0 ρ a w h0 h1 hM hF
  exact wp_label ⟨.normal,rfl,fr,M,S,ρ,h,ag.le_refl _,h1,hM,hF,ce.refl _⟩
 |goto l=>intro fr M Q h;exact h
 |refuse s=>intro fr M Q h;exact h
structure aM (D:List Nat) (fr:List AV) (M:ai) (fr':List AV) (M':ai):Prop where
 out:∀S F ρ0 ρ a w,gZ ρ0 D->aw.le ρ0 ρ->ax S F ρ M w->ei S ρ a fr->∃S' ρ',S.le S'/\aw.le ρ0 ρ'/\ax S' F ρ' M' w/\ei S' ρ' a fr'
theorem fj {D:List Nat} {fr:List AV} {M:ai} {fr':List AV} {M':ai}:aM D fr M fr' M'↔(∀S F ρ0 ρ a w,gZ ρ0 D->aw.le ρ0 ρ->ax S F ρ M w->ei S ρ a fr->∃S' ρ',S.le S'/\aw.le ρ0 ρ'/\ax S' F ρ' M' w/\ei S' ρ' a fr'):=⟨fun h=>h.out,fun h=>⟨h⟩⟩
theorem aE.sub {c:Code} {fr fr':List AV} {M M':ai} {Q:bR} (hs:aM D fr M fr' M') (h:aE P D c fr' M' Q):aE P D c fr M Q:=by
 simp only[cp,fj] at*
 intro S F ρ0 ρ a w h0 h1 hM hF
 obtain⟨S',ρ',k1,k2,k3,k4⟩:=hs S F ρ0 ρ a w h0 h1 hM hF
 refine wp_mono (h S' F ρ0 ρ' a w h0 k2 k3 k4) ?_
 rintro e a' w' ⟨x,hx,ha⟩
 exact⟨x,hx,ha.trans k1 (aw.le_refl _) (ce.refl _)⟩
def jK {X:Type _} (D:List Nat) (I:X->Prop) (frI:X->List AV) (MI:X->ai) (μ:X->Nat) (x:X) (Q:bR):bR:=fun e fr M=>match e with
 | .normal=>∃x',aM D fr M (frI x') (MI x')/\I x'/\μ x'<μ x
 | .exit i=>Q (.exit i) fr M
 | .ret=>Q .ret fr M
theorem aE.loop {c:Code} {fr:List AV} {M:ai} {Q:bR} {X:Type _} (I:X->Prop) (frI:X->List AV) (MI:X->ai) (μ:X->Nat) (x0:X) (hi:I x0) (h0:aM D fr M (frI x0) (MI x0))
  (h:∀x,I x->aE P D c (frI x) (MI x) (jK D I frI MI μ x Q)):aE P D (.loop c) fr M Q:=by
 refine aE.sub h0 ?_
 rw[cp]
 intro S F ρ0 ρ a w hin h1 hM hF
 have key:∀(n:Nat) (x:X) (S1:ag) (ρ1:aw) (a1:Act) (w1:World),μ x=n->I x->S.le S1->ce w w1->aw.le ρ0 ρ1->ax S1 F ρ1 (MI x) w1->ei S1 ρ1 a1 (frI x)->
   ∀b k cs,∃e a' w',(∃x,BZ e=some x/\cI S F ρ0 w (Q x) a' w')/\Arrives P (lone (b.at a1 (.code c:: .inLoop c::k)) cs w1) b k cs e a' w':=by
  intro n
  induction n using Nat.strongRecOn with
  |_ n ih=>
   intro x S1 ρ1 a1 w1 hn hIx hS hw hρ hM1 hF1 b k cs
   have hx:=h x hIx
   rw[cp] at hx
   obtain⟨e,a2,w2,⟨ex,he,f,M',S2,ρ2,kk,k1,k2,k3,k4,k5⟩,harr⟩:=hx S1 F ρ0 ρ1 a1 w1 hin hρ hM1 hF1 b (.inLoop c::k) cs
   cases e with
   |normal=>
    cases he
    obtain⟨x',hsub,hIx',hlt⟩:=kk
    rw[fj] at hsub
    obtain⟨S3,ρ3,j1,j2,j3,j4⟩:=hsub S2 F ρ0 ρ2 a2 w2 hin k2 k3 k4
    obtain⟨e3,a3,w3,hq,harr3⟩:=ih (μ x') (hn▸hlt) x' S3 ρ3 a2 w2 rfl hIx' (ag.le_trans hS (ag.le_trans k1 j1)) (hw.trans k5) j2 j3 j4 b k cs
    exact⟨e3,a3,w3,hq, .of_steps (Steps.trans harr (.one step_inLoop)) harr3⟩
   |exit i=>cases he;exact⟨_,a2,w2,⟨_,rfl,f,M',S2,ρ2,kk,ag.le_trans hS k1,k2,k3,k4,hw.trans k5⟩, .pass (x:= .inLoop c) rfl (fun _ _=> .inl (by simp)) harr⟩
   |ret=>cases he;exact⟨_,a2,w2,⟨_,rfl,f,M',S2,ρ2,kk,ag.le_trans hS k1,k2,k3,k4,hw.trans k5⟩, .pass (x:= .inLoop c) rfl (fun _ _=> .inl (by simp)) harr⟩
   |goto l=>cases he
   |panic l=>cases he
   |outgrown=>cases he
 intro b k cs
 obtain⟨e,a',w',hq,harr⟩:=key _ x0 S ρ a w rfl hi (ag.le_refl _) (ce.refl _) h1 hM hF b k cs
 exact⟨e,a',w',hq, .of_steps (.one step_loop) harr⟩
def B3 {X Y:Type _} (D:List Nat) (I:X->Y->Prop) (frI:X->Y->List AV) (MI:X->Y->ai) (μ:X->Y->Nat) (x:X) (y:Y) (Q:bR):bR:=fun e fr M=>match e with
 | .normal=>∃x' y',aM D fr M (frI x' y') (MI x' y')/\I x' y'/\μ x' y'<μ x y
 | .exit i=>Q (.exit i) fr M
 | .ret=>Q .ret fr M
theorem aE.loop2 {c:Code} {fr:List AV} {M:ai} {Q:bR} {X Y:Type _} (I:X->Y->Prop) (frI:X->Y->List AV) (MI:X->Y->ai) (μ:X->Y->Nat) (x0:X) (y0:Y) (hi:I x0 y0) (h0:aM D fr M (frI x0 y0) (MI x0 y0))
  (h:∀x y,I x y->aE P D c (frI x y) (MI x y) (B3 D I frI MI μ x y Q)):aE P D (.loop c) fr M Q:=
 aE.loop (X:=X×Y) (fun z=>I z.1 z.2) (fun z=>frI z.1 z.2) (fun z=>MI z.1 z.2) (fun z=>μ z.1 z.2) (x0,y0) hi h0 fun z hz=>(h z.1 z.2 hz).mono fun e f M hh=>by
  cases e with
  |normal=>obtain⟨x',y',a,b,c⟩:=hh;exact⟨(x',y'),a,b,c⟩
  |exit i=>exact hh
  |ret=>exact hh
end
end
section
section
theorem aM.by_ {D:List Nat} {fr fr':List AV} {M:ai} (lm:b8) (L:List (Nat×aX)) (n:Nat) (hs:(gX lm L&&f5 L lm&&qH lm D)=true) (hm:dK lm n M L) (hf:ge lm n fr fr'):aM D fr M fr' (ai.ofL L):=by
 rw[fj]
 intro S F ρ0 ρ a w h0 h1 hM hF
 rw[Bool.and_eq_true,Bool.and_eq_true] at hs
 refine⟨S,bK lm ρ,ag.le_refl _,fun ℓ b hb=>?_,hM.relabel hm hs.1.1 hs.1.2,(jv n).2 fr fr' _ hf hF.1,hF.2⟩
 have:=List.all_eq_true.1 hs.2 ℓ (h0 ℓ b hb)
 unfold bK
 cases hf:aA lm ℓ with
 |none=>rw[hf] at this;cases this
 |some x=>
  rw[hf] at this
  cases x with
  |old m=>
   simp only at this⊢
   rw[Nat.eq_of_beq_eq_true this]
   exact h1 ℓ b hb
  |nil _=>cases this
end
def G7:Nat->(List AV->Prop)->Prop
 |0,k=>k []
 |n+1,k=>G7 n fun l=>k (.tup []::l)
theorem Ax:∀(n:Nat) (k:List AV->Prop),G7 n k=k (List.replicate n (.tup []))
 |0,k=>rfl
 |n+1,k=>by rw[G7,Ax n];rfl
def mv:List AV->Nat->(List AV->Prop)->Prop
 |[],n,k=>G7 n k
 |u::us,n,k=>mv us n fun l=>k (u::l)
theorem kv:∀(us:List AV) (n:Nat) (k:List AV->Prop),mv us n k=k (us++List.replicate n (.tup []))
 |[],n,k=>by rw[mv,Ax];rfl
 |u::us,n,k=>by rw[mv,kv us n];rfl
def oQ (tmps:Array Value):ResultVar->Sem Value
 | .tmp t=>pure (tmps.getD t undef)
 | .cell x t=>do loadVar t (<-asAddr (tmps.getD x undef))
def mP (tt:TT) (fr:List AV) (M:ai):List ResultVar->(List AV->Prop)->Prop
 |[],k=>k []
 |r::rs,k=>match r with
  | .tmp t=>uY fr t fun u=>mP tt fr M rs fun us=>k (u::us)
  | .cell a t=>uY fr a fun p=>fZ (gb tt t M p) fun u=>mP tt fr M rs fun us=>k (u::us)
def fP:List AV->AV
 |[u]=>u
 |us=> .tup us
def jL:List AV->ai->(List AV->ai->Prop)->Prop
 |[],M,K=>K [] M
 |u::us,M,K=>match u with
  | .agg cs=>dJ cs M fun cs' M'=>jL us M' fun us' M''=>K (.agg cs'::us') M''
  | .ptr ℓ 0=>match M ℓ with
   |some (.box _ cells)=>match cg cells with
    |true=>jL us (M.set ℓ .dead) fun us' M''=>K (.pd cells::us') M''
    |false=>jL us M fun us' M''=>K (.ptr ℓ 0::us') M''
   |_=>jL us M fun us' M''=>K (.ptr ℓ 0::us') M''
  |u=>dJ [u] M fun x M'=>jL us M' fun us' M''=>K (x++us') M''
section
variable {S F:ag} {ρ:aw} {M:ai} {w:World} {P:Program} {tt:TT}
theorem jg (hT:aW P tt=true) (hM:ax S F ρ M w) {a:Act} {fr:List AV} (hF:ei S ρ a fr):∀(rs:List ResultVar) (k:List AV->Prop),mP tt fr M rs k->
  ∃vs us,k us/\be S ρ vs us/\vs.length=rs.length/\(rs.mapM (oQ a.tmps)).run P w= .ok vs w
 |[],k,h=>⟨[],[],h,be.nil _ _,rfl,by simp⟩
 |r::rs,k,h=>by
  cases r with
  |tmp t=>
   simp only[mP,lZ] at h
   obtain⟨vs,us,hk,hv,hl,hr⟩:=jg hT hM hF rs _ h
   exact⟨a.tmps.getD t undef::vs,_,hk,be.cons (hF.eval (.tmp t)) hv,by simp[hl],by simp[List.mapM_cons,hr,oQ]⟩
  |cell x t=>
   simp only[mP,lZ] at h
   have hx:=hF.eval (.tmp x)
   obtain⟨v,u,he,hv,h⟩:=DI h (tv (t:=t) hT hM hx).next
   obtain⟨vs,us,hk,hvs,hl,hr⟩:=jg hT hM hF rs _ h
   have he':(Instr.loadAt t (a.eval (.tmp x))).run P w= .ok v w:=by
    simp only[Sem.run_bind] at he
    cases hq:(Instr.loadAt t (a.eval (.tmp x))).run P w with
    |ok y w'=>rw[hq] at he;simp at he;rw[he.1,he.2]
    |halt y w'=>rw[hq] at he;simp at he
   have he2:(oQ a.tmps (.cell x t)).run P w= .ok v w:=by
    unfold oQ
    have:a.eval (.tmp x)=a.tmps.getD x undef:=rfl
    rw[this] at he'
    show(do loadVar t (<-asAddr (a.tmps.getD x undef)):Sem Value).run P w= .ok v w
    generalize a.tmps.getD x undef=y at he'⊢
    unfold Instr.loadAt Instr.sureAddr at he'
    cases y with
    |pointer ad=>
     cases ad with
     |some ad=>simpa[asAddr] using he'
     |none=>simp at he'
    |_=>simp at he'
   exact⟨v::vs,_,hk,be.cons hv hvs,by simp[hl],by simp[List.mapM_cons,he2,hr]⟩
theorem gN:∀(us:List AV) (vs:List Value) (S:ag) (M:ai) (K:List AV->ai->Prop),jL us M K->be S ρ vs us->ax S F ρ M w->
  ∃us' M' S',K us' M'/\S.le S'/\be S' ρ vs us'/\ax S' F ρ M' w
 |[],vs,S,M,K,h,hv,hM=>⟨[],M,S,h,ag.le_refl _,hv,hM⟩
 |u::us,vs,S,M,K,h,hv,hM=>by
  obtain⟨x,xs,rfl,hx,hxs⟩:=hv.cons_inv
  simp only[jL] at h
  split at h
  ·rename_i cs
   obtain⟨ys,rfl,hys⟩:=hx.agg_inv
   obtain⟨cs',M1,S1,h,hle,hc,hM1,_⟩:=gK _ _ _ _ _ h hys hM
   obtain⟨us',M',S',hK,hle',hvs',hM'⟩:=gN us xs S1 M1 _ h (hxs.mono hle (aw.le_refl _)) hM1
   refine⟨_,M',S',hK,ag.le_trans hle hle',be.cons ?_ hvs',hM'⟩
   have:=RV.agg_mk (hc.mono hle' (aw.le_refl _))
   simpa using this
  ·split at h
   ·rename_i hl
    split at h
    ·rename_i hp
     obtain⟨S1,b,hle,hb,hM1,hr⟩:=hM.leakBox hl (fun j u v hu hv=>by
      have ho:nf u=true:=by
       have:∀(l:List AV),cg l=true->∀u∈l,nf u=true:=by
        intro l
        induction l with
        |nil=>intro _ u hu;cases hu
        |cons a l ih=>
         intro hp u hu
         simp only[cg] at hp
         split at hp
         ·rename_i ha
          rcases List.mem_cons.1 hu with rfl|hu
          ·exact ha
          ·exact ih hp u hu
         ·simp at hp
       exact this _ hp u (List.mem_of_getElem? hu)
      exact(wv ho hv).1)
     obtain⟨us',M',S',hK,hle',hvs',hM'⟩:=gN us xs S1 _ _ h (hxs.mono hle (aw.le_refl _)) hM1
     obtain⟨b',hb',rfl⟩:=hx.ptr_inv
     rw[hb] at hb';cases hb'
     exact⟨_,M',S',hK,ag.le_trans hle hle',be.cons (.p (hr.mono hle')) hvs',hM'⟩
    ·obtain⟨us',M',S',hK,hle',hvs',hM'⟩:=gN us xs S M _ h hxs hM
     exact⟨_,M',S',hK,hle',be.cons (hx.mono hle' (aw.le_refl _)) hvs',hM'⟩
   ·obtain⟨us',M',S',hK,hle',hvs',hM'⟩:=gN us xs S M _ h hxs hM
    exact⟨_,M',S',hK,hle',be.cons (hx.mono hle' (aw.le_refl _)) hvs',hM'⟩
  ·obtain⟨y,M1,S1,h,hle,hc,hM1,_⟩:=gK _ [x] _ _ _ h (be.cons hx (be.nil _ _)) hM
   obtain⟨us',M',S',hK,hle',hvs',hM'⟩:=gN us xs S1 M1 _ h (hxs.mono hle (aw.le_refl _)) hM1
   exact⟨_,M',S',hK,ag.le_trans hle hle',(hc.mono hle' (aw.le_refl _)).append hvs',hM'⟩
theorem jM {vs:List Value} {us:List AV} (hv:be S ρ vs us):RV S ρ (if h:vs.length=1 then vs[0] else .tuple vs.toArray) (fP us):=by
 cases us with
 |nil=>rw[hv.nil_inv];simpa[fP] using RV.tup_mk (be.nil S ρ)
 |cons u us=>
  obtain⟨x,xs,rfl,hx,hxs⟩:=hv.cons_inv
  cases us with
  |nil=>have:=hxs.nil_inv;subst this;simpa[fP] using hx
  |cons u2 us=>
   obtain⟨x2,xs2,rfl,_,_⟩:=hxs.cons_inv
   simpa[fP] using RV.tup_mk hv
def B4 (tt:TT) (rs:List ResultVar) (R:AV->ai->Prop):bR:=fun e fr M=>match e with
 | .normal=>mP tt fr M rs fun us=>R (fP us) M
 | .ret=>mP tt fr M rs fun us=>R (fP us) M
 | .exit _=>False
def JT (tt:TT) (rs:List ResultVar) (R:AV->Prop):bR:=fun e fr M=>match e with
 | .normal=>mP tt fr M rs fun us=>jL us M fun us' _=>R (fP us')/\bX 5 (fP us')=true
 | .ret=>mP tt fr M rs fun us=>jL us M fun us' _=>R (fP us')/\bX 5 (fP us')=true
 | .exit _=>False
theorem fy {fn:Func} {tmps:Array Value} {vs:List Value} (h:(fn.results.toList.mapM (oQ tmps)).run P w= .ok vs w):(results fn tmps).run P w= .ok (if h:vs.length=1 then vs[0] else .tuple vs.toArray) w:=by
 have e:results fn tmps=(do
   let vs <-fn.results.mapM (oQ tmps)
   pure (if h:vs.size=1 then vs[0] else .tuple vs)):=by
  unfold results
  congr 2
 rw[e,Array.mapM_eq_mapM_toList]
 simp only[Sem.run_bind,Sem.run_map,h,Result.andThen_ok,Sem.run_pure]
 congr 1
theorem oS {f:FuncId} {fn:Func} {c:Code} {args:List AV} {D:List Nat} (hf:P.funcs[f]? =some fn) (hb:fn.body=some c) {Q:bR}
  (hw:mv args (fn.ntmps-args.length) fun fr=>aE P D c fr M Q) {ρ0:aw} (hD:gZ ρ0 D) {vs:List Value} (hM:ax S F ρ0 M w) (hv:be S ρ0 vs args) {R:Ending->World->Prop}
  (hR:∀(e:LU) a' w',cI S F ρ0 w (Q e) a' w'->a'.defers=[]->(∀i,e≠ .exit i)/\∃v,(results fn a'.tmps).run P w'= .ok v w'/\R (.returned v) w'):Calls P f vs.toArray w R:=by
 rw[kv] at hw
 rw[cp] at hw
 refine calls_of_wp hf hb ?_
 have hlen:=hv.1
 have hF:ei S ρ0 {tmps:=vs.toArray++Array.replicate (fn.ntmps-vs.toArray.size) undef,defers:=[]} (args++List.replicate (fn.ntmps-args.length) (.tup [])):=by
  refine⟨?_,rfl⟩
  have e:(vs.toArray++Array.replicate (fn.ntmps-vs.toArray.size) undef).toList=vs++List.replicate (fn.ntmps-args.length) undef:=by simp[hlen]
  rw[e]
  refine hv.append ⟨by simp,fun i u hu=>?_⟩
  have hi:=(List.getElem?_eq_some_iff.1 hu).1
  simp only[List.length_replicate] at hi
  have hu':u= .tup []:=by
   rw[List.getElem?_replicate] at hu
   simp[hi] at hu
   exact hu.symm
  subst hu'
  exact⟨undef,by simp[hi],RV.tup_mk (be.nil _ _)⟩
 refine wp_mono (hw S F ρ0 ρ0 _ w hD (aw.le_refl _) hM hF) ?_
 rintro e a' w' ⟨x,hx,ha⟩
 have hd:a'.defers=[]:=by obtain⟨_,_,_,_,_,_,_,_,hF',_⟩:=ha;exact hF'.2
 obtain⟨h1,v,h2,h3⟩:=hR x a' w' ha hd
 cases e with
 |normal=>exact⟨hd,v,h2,h3⟩
 |ret=>exact⟨hd,v,h2,h3⟩
 |exit i=>cases hx;exact absurd rfl (h1 i)
 |goto l=>cases hx
 |panic l=>cases hx
 |outgrown=>cases hx
theorem jN {f:FuncId} {fn:Func} {c:Code} (hf:P.funcs[f]? =some fn) (hb:fn.body=some c) (hn:(fn.name== "runtime.NumGoroutine")=false):lf P f:=⟨fn,hf,hn,by rw[hb];rfl⟩
theorem an.intro (hT:aW P tt=true) (hm:P.follows .mixedOrders=true) {f:FuncId} {fn:Func} {c:Code} {args:List AV} (L:List (Nat×aX)) {R:AV->ai->Prop} (hf:P.funcs[f]? =some fn) (hb:fn.body=some c) (hn:(fn.name== "runtime.NumGoroutine")=false)
  (h:mv args (fn.ntmps-args.length) fun fr=>fx P tt (L.map (·.1)) c fr (ai.ofL L) (B4 tt fn.results.toList R)):an P f args (ai.ofL L) R:=by
 rw[bT]
 refine⟨jN hf hb hn,fun S F ρ vs w hM hv=>?_⟩
 have hD:gZ ρ (L.map (·.1)):=fun ℓ b hb=>by
  have:=hM.dom ℓ b hb
  cases hB:ai.ofL L ℓ with
  |none=>exact absurd hB this
  |some B=>exact List.mem_map_of_mem (f:=(·.1)) (eO hB)
 refine oS (D:=L.map (·.1)) (Q:=B4 tt fn.results.toList R) hf hb ?_ hD hM hv fun e a' w' ha hd=>?_
 ·rw[kv] at h⊢;exact aZ hT hm c _ _ _ h
 ·obtain⟨fr,M',S',ρ',hk,h1,h2,h3,h4,h5⟩:=ha
  have fin:mP tt fr M' fn.results.toList (fun us=>R (fP us) M')->∃v,(results fn a'.tmps).run P w'= .ok v w'/\ld S F ρ w R (.returned v) w':=by
   intro hk
   obtain⟨vs',us,hK,hvs,hl,hr⟩:=jg hT h3 h4 _ _ hk
   exact⟨_,fy hr,_,_,M',S',ρ',rfl,hK,h1,h2,h3,jM hvs,h5⟩
  cases e with
  |normal=>exact⟨by simp,fin hk⟩
  |ret=>exact⟨by simp,fin hk⟩
  |exit i=>exact hk.elim
theorem ae.intro (hT:aW P tt=true) (hm:P.follows .mixedOrders=true) {f:FuncId} {fn:Func} {c:Code} {args:List AV} {R:AV->Prop} (hf:P.funcs[f]? =some fn) (hb:fn.body=some c) (hn:(fn.name== "runtime.NumGoroutine")=false)
  (h:mv args (fn.ntmps-args.length) fun fr=>fx P tt [] c fr ai.none (JT tt fn.results.toList R)):ae P f args R:=by
 rw[eM]
 refine⟨jN hf hb hn,fun S F vs w hg hs hfr hd hv=>?_⟩
 refine oS (M:=ai.none) (ρ0:=fun _=>none) (D:=[]) (Q:=JT tt fn.results.toList R) hf hb ?_ (fun ℓ b hb=>by cases hb) ⟨hs,hfr,hd,by simp,by simp[ai.none],by simp,hg⟩ (hv.rv _) fun e a' w' ha hd'=>?_
 ·rw[kv] at h⊢;exact aZ hT hm c _ _ _ h
 ·obtain⟨fr,M',S',ρ',hk,h1,h2,h3,h4,h5⟩:=ha
  have fin:(mP tt fr M' fn.results.toList fun us=>jL us M' fun us' _=>R (fP us')/\bX 5 (fP us')=true)->∃v,(results fn a'.tmps).run P w'= .ok v w'/\nn S F w R (.returned v) w':=by
   intro hk
   obtain⟨vs',us,hK,hvs,hl,hr⟩:=jg hT h3 h4 _ _ hk
   obtain⟨us',M2,S2,⟨hR,hp⟩,hle,hvs2,hM2⟩:=gN _ _ _ _ _ hK hvs h3
   exact⟨_,fy hr,_,_,S2,rfl,hR,ag.le_trans h1 hle,hM2.sw,hM2.fw,hM2.sf,jI 5 hp (jM hvs2),h5⟩
  cases e with
  |normal=>exact⟨by simp,fin hk⟩
  |ret=>exact⟨by simp,fin hk⟩
  |exit i=>exact hk.elim
end
end
section
section
variable {M:ai} {P:Program}
theorem B5 (ℓ:Nat) (B:aX) (M:ai):c0 [(ℓ,B)] M=M.set ℓ B:=by
 funext x
 simp only[c0,ai.ofL,ai.set]
 by_cases h:x=ℓ
 ·subst h;simp
 ·have h1:Nat.beq ℓ x=false:=by rw[Bool.eq_false_iff];intro hh;exact h (Nat.eq_of_beq_eq_true hh).symm
  have h2:Nat.beq x ℓ=false:=by rw[Bool.eq_false_iff];intro hh;exact h (Nat.eq_of_beq_eq_true hh)
  simp[h1,h2]
def newRow (n sz:Nat) (B:aX):AV->ai->Prop:=fun u M=>∃ℓ0,u= .row ℓ0 n sz/\ie [] 1 (M ℓ0) B
theorem an.fresh {f:FuncId} {args:List AV} {K:AV->ai->Prop} {n sz:Nat} {t:TypeId} {α:Type} {d:α} {enc:α->List AV} {l:List α} (ℓ:Nat)
  (h:an P f args (ai.ofL []) (fun u M=>∃ℓ0,u= .row ℓ0 n sz/\M ℓ0=some (.row t d enc l))) (hf:(M ℓ).isNone=true) (ha:ge [] 400 args args)
  (hk:K (.row ℓ n sz) (M.set ℓ (.row t d enc l))):an P f args M K:=by
 refine an.call [] [] 400 rfl trivial ha h ?_
 rintro u M' ⟨ℓ0,rfl,e⟩
 refine⟨[(ℓ, .old ℓ0)],[(ℓ, .row t d enc l)], .row ℓ n sz,?_,?_,?_,?_⟩
 ·simp[gX,f5,gx,np,wK,oI,ai.ofL,hf]
 ·simp[dK,aA,ie,e]
 ·simp[mC,aA]
 ·rw[B5];exact hk
theorem cD {f:FuncId} {args:List AV} {K:AV->ai->Prop} {R:AV->ai->Prop} (n:Nat) (lb:b8) (L2:List (Nat×aX)) (u':AV) (h:an P f args (ai.ofL []) R) (ha:ge [] n args args)
  (hb:(gX lb L2&&f5 L2 lb&&wK [] lb&&oI [] lb M)=true) (hf:L2.all (fun p=>(M p.1).isNone)=true) (hr:∀u M',R u M'->dK lb n M' L2/\mC lb n u u') (hk:K u' (c0 L2 M)):kN P f args M K:=
 ⟨R,n,lb,L2,u',h,ha,hb,hf,hr,hk⟩
theorem an.news {f:FuncId} {args:List AV} {K:AV->ai->Prop} {R:AV->ai->Prop} (n:Nat) (lb:b8) (L2:List (Nat×aX)) (u':AV) (h:an P f args (ai.ofL []) R) (ha:ge [] n args args)
  (hb:(gX lb L2&&f5 L2 lb&&wK [] lb&&oI [] lb M)=true) (hr:∀u M',R u M'->dK lb n M' L2/\mC lb n u u') (hk:K u' (c0 L2 M)):an P f args M K:=
 an.call [] [] n rfl trivial ha h fun u M' hR=>⟨lb,L2,u',hb,(hr u M' hR).1,(hr u M' hR).2,hk⟩
end
end
section
def vd:List Oper->List Nat->List Nat
 |[],r=>r
 |o::l,r=>match o.dst with
  |some d=>d::vd l r
  |none=>vd l r
def jO:Code->List Nat->List Nat
 | .region _ ops _,r=>vd ops.toList r
 | .seq a b,r=>jO a (jO b r)
 | .cond _ a b,r=>jO a (jO b r)
 | .block _ a,r=>jO a r
 | .loop a,r=>jO a r
 | .rangeFunc _ ps a b,r=>ps.toList++jO a (jO b r)
 | .scope a,r=>jO a r
 |_,r=>r
def mQ:List Nat->(List Nat->Prop)->Prop
 |[],k=>k []
 |n::l,k=>mQ l fun l'=>k (n::l')
theorem jP:∀(l:List Nat) (k:List Nat->Prop),mQ l k=k l
 |[],_=>rfl
 |n::l,k=>by rw[mQ,jP l]
def L3:List Nat->Nat->Bool
 |[],_=>false
 |n::l,i=>match Nat.beq n i with|true=>true|false=>L3 l i
def ny:List AV->Nat->List Nat->(List AV->Prop)->Prop
 |[],_,_,k=>k []
 |u::fr,i,ms,k=>match L3 ms i with
  |true=>ny fr (Nat.succ i) ms fun r=>k (.top::r)
  |false=>match u with
   | .tup _=>ny fr (Nat.succ i) ms fun r=>k (.top::r)
   |u=>ny fr (Nat.succ i) ms fun r=>k (u::r)
theorem iJ:∀(fr:List AV) (i:Nat) (ms:List Nat) (k:List AV->Prop),ny fr i ms k->∃fr0,k fr0
 |[],_,_,k,h=>⟨[],h⟩
 |u::fr,i,ms,k,h=>by
  unfold ny at h
  split at h
  ·obtain⟨r,hr⟩:=iJ fr _ _ _ h;exact⟨_,hr⟩
  ·split at h
   ·obtain⟨r,hr⟩:=iJ fr _ _ _ h;exact⟨_,hr⟩
   ·obtain⟨r,hr⟩:=iJ fr _ _ _ h;exact⟨_,hr⟩
def jh:List AV->List (Nat×AV)->List AV
 |fr,[]=>fr
 |fr,(i,u)::us=>jh (fr.set i u) us
def q6:List AV->List (Nat×AV)->(List AV->Prop)->Prop
 |fr,[],k=>k fr
 |fr,(i,u)::us,k=>uZ fr i u fun fr'=>q6 fr' us k
theorem ll:∀(us:List (Nat×AV)) (fr:List AV) (k:List AV->Prop),q6 fr us k=k (jh fr us)
 |[],_,_=>rfl
 |(i,u)::us,fr,k=>by rw[q6,nu,ll us];rfl
def oA (L:List (Nat×aX)):b8:=L.map fun p=>(p.1, .old p.1)
theorem aM.id_ {D:List Nat} {fr fr':List AV} {M:ai} {L:List (Nat×aX)} (n:Nat) (hs:(gX (oA L) L&&f5 L (oA L)&&qH (oA L) D)=true) (hm:dK (oA L) n M L) (hf:ge (oA L) n fr fr'):aM D fr M fr' (ai.ofL L):=
 aM.by_ (oA L) L n hs hm hf
theorem sI {D:List Nat} {fr fr':List AV} {M:ai} {L:List (Nat×aX)} (hm:dK (oA L) 400 M L:=by repeat' (first|exact True.intro|exact rfl|(refine And.intro ?_ ?_)|((conv=>whnf);omega)|((conv=>whnf);simp only[List.length_append,List.length_cons,List.length_nil];done)|((conv=>whnf);simp only[List.length_append,List.length_cons,List.length_nil];omega))) (hf:ge (oA L) 400 fr fr':=by repeat' (first|exact True.intro|exact rfl|(refine And.intro ?_ ?_)|((conv=>whnf);omega)|((conv=>whnf);simp only[List.length_append,List.length_cons,List.length_nil];done)|((conv=>whnf);simp only[List.length_append,List.length_cons,List.length_nil];omega))) (hs:(gX (oA L) L&&f5 L (oA L)&&qH (oA L) D)=true:=by exact rfl):aM D fr M fr' (ai.ofL L):=aM.id_ 400 hs hm hf
theorem an.norm {P:Program} {f:FuncId} {args:List AV} {L0:List (Nat×aX)} {R R':AV->ai->Prop} (n:Nat) (h:an P f args (ai.ofL L0) R)
  (hk:∀u M',R u M'->∃(L:List (Nat×aX)) (u':AV),(gX (oA L) L&&f5 L (oA L)&&qH (oA L) (L0.map (·.1)))=true/\dK (oA L) n M' L/\mC (oA L) n u u'/\R' u' (ai.ofL L)):an P f args (ai.ofL L0) R':=by
 rw[bT] at h⊢
 refine⟨h.1,fun S F ρ vs w hM hv=>(h.2 S F ρ vs w hM hv).mono ?_⟩
 rintro e w' ⟨v,u,M',S',ρ',rfl,hR,hle,hρ,hM',hr,hw⟩
 obtain⟨L,u',hb,hm,ha,hR'⟩:=hk u M' hR
 simp only[Bool.and_eq_true] at hb
 obtain⟨⟨hb1,hb2⟩,hb3⟩:=hb
 refine⟨v,u',_,S',bK (oA L) ρ',rfl,hR',hle,fun ℓ b hb=>?_,hM'.relabel hm hb1 hb2,(jv n).1 u u' v ha hr,hw⟩
 have hd:=hM.dom ℓ b hb
 obtain⟨B,hB⟩:∃B,ai.ofL L0 ℓ=some B:=by
  cases h:ai.ofL L0 ℓ with
  |none=>exact absurd h hd
  |some B=>exact⟨B,rfl⟩
 have hmem:=List.mem_map_of_mem (f:=(·.1)) (eO hB)
 have:=List.all_eq_true.1 hb3 _ hmem
 simp only at this
 split at this
 ·rename_i m hm'
  have:=Nat.eq_of_beq_eq_true this
  subst this
  show bK (oA L) ρ' _=_
  unfold bK
  rw[hm']
  exact hρ _ _ hb
 ·cases this
theorem an.renorm {P:Program} {f:FuncId} {args:List AV} {L0:List (Nat×aX)} {R R':AV->ai->Prop} (n:Nat) (h:an P f args (ai.ofL L0) R)
  (hk:∀u M',R u M'->∃(lm:b8) (L:List (Nat×aX)) (u':AV),(gX lm L&&f5 L lm&&qH lm (L0.map (·.1)))=true/\dK lm n M' L/\mC lm n u u'/\R' u' (ai.ofL L)):an P f args (ai.ofL L0) R':=by
 rw[bT] at h⊢
 refine⟨h.1,fun S F ρ vs w hM hv=>(h.2 S F ρ vs w hM hv).mono ?_⟩
 rintro e w' ⟨v,u,M',S',ρ',rfl,hR,hle,hρ,hM',hr,hw⟩
 obtain⟨lm,L,u',hb,hm,ha,hR'⟩:=hk u M' hR
 simp only[Bool.and_eq_true] at hb
 obtain⟨⟨hb1,hb2⟩,hb3⟩:=hb
 refine⟨v,u',_,S',bK lm ρ',rfl,hR',hle,fun ℓ b hb=>?_,hM'.relabel hm hb1 hb2,(jv n).1 u u' v ha hr,hw⟩
 have hd:=hM.dom ℓ b hb
 obtain⟨B,hB⟩:∃B,ai.ofL L0 ℓ=some B:=by
  cases h:ai.ofL L0 ℓ with
  |none=>exact absurd h hd
  |some B=>exact⟨B,rfl⟩
 have hmem:=List.mem_map_of_mem (f:=(·.1)) (eO hB)
 have:=List.all_eq_true.1 hb3 _ hmem
 simp only at this
 split at this
 ·rename_i m hm'
  have:=Nat.eq_of_beq_eq_true this
  subst this
  show bK lm ρ' _=_
  unfold bK
  rw[hm']
  exact hρ _ _ hb
 ·cases this
section
variable {P:Program} {tt:TT} {D:List Nat}
theorem aE.loopF (hT:aW P tt=true) (hm:P.follows .mixedOrders=true) {c:Code} {fr:List AV} {M:ai} {Q:bR} {X:Type _} (I:X->Prop) (us:X->List (Nat×AV)) (L:X->List (Nat×aX)) (μ:X->Nat) (x0:X) (hi:I x0)
  (h:mQ (jO c []) fun ms=>ny fr 0 ms fun fr0=>aM D fr M (jh fr0 (us x0)) (ai.ofL (L x0))/\
   ∀x,I x->q6 fr0 (us x) fun fr1=>fx P tt D c fr1 (ai.ofL (L x)) (jK D I (fun x=>jh fr0 (us x)) (fun x=>ai.ofL (L x)) μ x Q)):aE P D (.loop c) fr M Q:=by
 rw[jP] at h
 obtain⟨fr0,h0,h⟩:=iJ _ _ _ _ h
 refine aE.loop I (fun x=>jh fr0 (us x)) (fun x=>ai.ofL (L x)) μ x0 hi h0 fun x hx=>?_
 have:=h x hx
 rw[ll] at this
 exact aZ hT hm _ _ _ _ this
end
end
section
theorem an.dcall {P:Program} {M:ai} {f:FuncId} {args:List AV} {p:Prop} {i:Decidable p} {K:AV->ai->Prop} {n:Nat} (h:ae P f args (fun u=>u= .bool (@decide p i))) (hp:args.all (bX n)=true) (ht:p->K (.bool true) M) (hf:¬p->K (.bool false) M):an P f args M K:=
 an.of_pure (n:=n) h hp fun u hu=>by
  subst hu
  by_cases hh:p
  ·rw[decide_eq_true hh];exact ht hh
  ·rw[decide_eq_false hh];exact hf hh
theorem L4 {P:Program} {f:FuncId} {args:List AV} {p:Prop} {i:Decidable p} {K:AV->Prop} (n:Nat) (h:ae P f args (fun u=>u= .bool (@decide p i))) (hp:args.all (bX n)=true) (ht:p->K (.bool true)) (hf:¬p->K (.bool false)):qK P f args K:=
 u3 n h hp ⟨_,rfl⟩ fun u hu=>by
  subst hu
  by_cases hh:p
  ·rw[decide_eq_true hh];exact ht hh
  ·rw[decide_eq_false hh];exact hf hh
theorem aN {p:Prop} {i:Decidable p} (h:p):AV.bool true= .bool (@decide p i):=by rw[decide_eq_true h]
theorem aq {p:Prop} {i:Decidable p} (h:¬p):AV.bool false= .bool (@decide p i):=by rw[decide_eq_false h]
def zf (M:ai):AV->AV
 | .row ℓ n sz=>match M ℓ with
  |some (.row _ d enc l)=> .sl d enc l
  |some (.gone d enc l)=> .sl d enc l
  |_=> .row ℓ n sz
 | .ptr ℓ o=>match M ℓ with
  |some (.box _ cells)=>match cg cells with
   |true=> .pd (cells.drop o)
   |false=> .ptr ℓ o
  |_=> .ptr ℓ o
 |u=>u
def G8 (M:ai):AV->AV
 | .agg cs=> .agg (cs.map (zf M))
 | .fn f cs=> .fn f (cs.map (zf M))
 |u=>zf M u
def D6:aX->Bool
 | .row _ _ _ _=>true
 | .box _ _=>true
 | .hdr _ _ _=>true
 |_=>false
def wX:AV->Bool
 | .int _ _| .bool _| .str _| .nilsl| .top=>true
 |_=>false
def Ay:AV->Bool
 | .tup cs=>cs.all wX
 | .agg cs=>cs.all wX
 |u=>wX u
section
variable {P:Program} {S F:ag} {ρ:aw} {M:ai} {w:World}
def ji (ρ:aw) (M:ai) (k:Nat):Prop:=∃ℓ B b,M ℓ=some B/\ρ ℓ=some b/\D6 B=true/\B.live b/\b.blk=k
noncomputable def bO (S:ag) (ρ:aw) (M:ai) (w:World):ag:=fun k=>open Classical in if ji ρ M k then w.heap[k]? else S k
theorem iu (hM:ax S F ρ M w) {k:Nat} (h:ji ρ M k):S k=none/\F k=none/\k<w.heap.size:=by
 obtain⟨ℓ,B,b,h1,h2,_,h3,rfl⟩:=h
 obtain⟨b',hb',hr⟩:=hM.blk _ _ h1
 rw[h2] at hb';cases hb'
 exact⟨(hr.off h3).1,(hr.off h3).2,hr.lt h3⟩
theorem wY (hM:ax S F ρ M w):S.le (bO S ρ M w):=by
 intro k o hk
 unfold bO
 split
 ·rename_i h
  rw[(iu hM h).1] at hk;cases hk
 ·exact hk
theorem D7 (hM:ax S F ρ M w):(bO S ρ M w).inW w:=by
 intro k o hk
 unfold bO at hk
 split at hk
 ·exact hk
 ·exact hM.sw k o hk
theorem ve (hM:ax S F ρ M w) {v:Value} {u:AV} (h:RV S ρ v u):RV (bO S ρ M w) ρ v (zf M u):=by
 have hle:=wY (S:=S) (F:=F) hM
 unfold zf
 split
 ·rename_i ℓ n sz
  split
  ·rename_i t α d enc l hl
   obtain⟨b,hb,hn,hs,hz,rfl⟩:=h.row_inv
   obtain⟨b',hb',hlen,hszs,hcase⟩:=hM.blk _ _ hl
   rw[hb] at hb';cases hb'
   rcases hcase with ⟨hnil,rfl,hcap⟩|⟨hnil,hcap,vs,hheap,hsize,hcell,hS,hF⟩
   ·have e:b.hdr= .slice none 0 0:=by simp only[dU.hdr,hnil,if_true,hcap];simp at hlen;rw[hlen]
    rw[e]
    exact .p (.sl d enc [] none 0 1 (fun _ _=> .int .i64 0) (by simp) (by simp) (by simp) (fun i j hi=>by simp at hi) (by simp) (fun i a j u hi=>by simp at hi))
   ·have e:b.hdr= .slice (some ⟨b.blk,0,none⟩) l.length b.cap:=by simp only[dU.hdr,hnil,hlen];rfl
    rw[e]
    have hl1:bO S ρ M w b.blk=some (.cells vs t (0,0)):=by
     unfold bO
     rw[if_pos ⟨ℓ,_,b,hl,hb,rfl,hnil,rfl⟩]
     exact hheap
    refine .p (.sl d enc l (some ⟨b.blk,0,none⟩) b.cap b.sz (fun i j=>vs.getD (i*b.sz+j) undef) hcap (fun a ha=>(hszs a ha).2) (fun a ha=>(hszs a ha).1) (fun i j hi hj=>⟨_,rfl,?_⟩) (by simp) (fun i a j u hi hu=>?_))
    ·rw[Addr.add_mk]
     have:i*b.sz+j<vs.size:=by
      rw[hsize]
      have:(i+1)*b.sz<=b.cap*b.sz:=Nat.mul_le_mul_right _ (by omega)
      rw[Nat.add_mul] at this
      omega
     unfold ag.cell
     simp only[hl1]
     simp[this]
    ·obtain⟨v,hv,hvr⟩:=hcell i a j u hi hu
     have:vs.getD (i*b.sz+j) undef=v:=by simp[hv]
     rw[this]
     exact hvr.mono hle
  ·rename_i α d enc l hl
   obtain⟨b,hb,hn,hs,hz,rfl⟩:=h.row_inv
   obtain⟨b',hb',hlen,hr⟩:=hM.blk _ _ hl
   rw[hb] at hb';cases hb'
   exact .p (hr.mono hle)
  ·exact h.mono hle (aw.le_refl _)
 ·rename_i ℓ o
  split
  ·rename_i t cells hl
   split
   ·rename_i hp
    obtain⟨b,hb,rfl⟩:=h.ptr_inv
    obtain⟨b',hb',vs,hheap,hvs,hS,hF⟩:=hM.blk _ _ hl
    rw[hb] at hb';cases hb'
    have hps:=(fq hp hvs).1
    have hl1:bO S ρ M w b.blk=some (.cells vs t (0,0)):=by
     unfold bO
     rw[if_pos ⟨ℓ,_,b,hl,hb,rfl,trivial,rfl⟩]
     exact hheap
    refine .p (.pd _ _ (fun j=>vs.getD (o+j) undef) (fun j hj=>?_) (fun j u hu=>?_))
    ·rw[Addr.add_mk]
     have hl2:=hps.1
     have:o+j<vs.size:=by simp at hj hl2;omega
     unfold ag.cell
     simp only[hl1]
     simp[this]
    ·rw[List.getElem?_drop] at hu
     obtain⟨v,hv,hvr⟩:=hps.2 _ u hu
     have hv':vs[o+j]? =some v:=by simpa using hv
     have:vs.getD (o+j) undef=v:=by simp[hv']
     rw[this]
     exact hvr.mono hle
   ·exact h.mono hle (aw.le_refl _)
  ·exact h.mono hle (aw.le_refl _)
 ·exact h.mono hle (aw.le_refl _)
theorem G9 (hM:ax S F ρ M w) {v:Value} {u:AV} (h:RV S ρ v u):RV (bO S ρ M w) ρ v (G8 M u):=by
 unfold G8
 split
 ·rename_i cs
  obtain⟨vs,rfl,hr⟩:=h.agg_inv
  have:be (bO S ρ M w) ρ vs.toList (cs.map (zf M)):=⟨by simpa using hr.1,fun i u hu=>by
   rw[List.getElem?_map] at hu
   obtain⟨u0,h0,rfl⟩:=Option.map_eq_some_iff.1 hu
   obtain⟨v,hv,hvr⟩:=hr.2 i u0 h0
   exact⟨v,hv,ve hM hvr⟩⟩
  have:=RV.agg_mk this
  simpa using this
 ·rename_i f cs
  obtain⟨vs,rfl,hr⟩:=h.fn_inv
  have:be (bO S ρ M w) ρ vs.toList (cs.map (zf M)):=⟨by simpa using hr.1,fun i u hu=>by
   rw[List.getElem?_map] at hu
   obtain⟨u0,h0,rfl⟩:=Option.map_eq_some_iff.1 hu
   obtain⟨v,hv,hvr⟩:=hr.2 i u0 h0
   exact⟨v,hv,ve hM hvr⟩⟩
  have:=RV.fn_mk f this
  simpa using this
 ·exact ve hM h
theorem q7 {S S':ag} {v:Value} {u:AV} (hf:wX u=true) (h:RP S v u):RP S' v u:=by
 cases h<;>first|(simp[wX] at hf;done)|constructor
theorem D8 {S S':ag} {v:Value} {u:AV} (hf:Ay u=true) (h:RP S v u):RP S' v u:=by
 cases u with
 |tup cs=>
  cases h with
  |tup _ vs hs vals he hv=>exact .tup cs vs hs vals he fun j u hu=>q7 (List.all_eq_true.1 hf u (List.mem_of_getElem? hu)) (hv j u hu)
 |agg cs=>
  cases h with
  |agg _ vs hs vals he hv=>exact .agg cs vs hs vals he fun j u hu=>q7 (List.all_eq_true.1 hf u (List.mem_of_getElem? hu)) (hv j u hu)
 |_=>exact q7 hf h
noncomputable def pw (S':ag) (ρ:aw) (M:ai):ag:=fun k=>open Classical in if ji ρ M k then none else S' k
theorem tR {S':ag} {k:Nat} (h:ji ρ M k):pw S' ρ M k=none:=by unfold pw;rw[if_pos h]
theorem q8 {S':ag} {k:Nat} (h:¬ji ρ M k):pw S' ρ M k=S' k:=by unfold pw;rw[if_neg h]
theorem an.borrowG {f:FuncId} {args args':List AV} {R:AV->Prop} {K:AV->ai->Prop} (h:ae P f args' R) (hconv:∀S F ρ w vs,ax S F ρ M w->be S ρ vs args->iY (bO S ρ M w) vs args') (hfl:∀u,R u->Ay u=true) (hk:∀u,R u->K u M):an P f args M K:=by
 rw[bT]
 rw[eM] at h
 refine⟨h.1,?_⟩
 intro S F ρ vs w hM hv
 have hle:=wY (S:=S) (F:=F) hM
 let own:Nat->Prop:=fun ℓ=>∃B,M ℓ=some B/\D6 B=true
 have hargs:=hconv S F ρ w vs hM hv
 have hsf:∀k,bO S ρ M w k=none\/fK F ρ M w own k=none:=by
  intro k
  by_cases hr:ji ρ M k
  ·right
   obtain⟨ℓ,B,b,h1,h2,h3,h4,rfl⟩:=hr
   unfold fK
   rw[if_neg]
   ·exact(iu hM ⟨ℓ,B,b,h1,h2,h3,h4,rfl⟩).2.1
   ·rintro⟨y,C,c,g1,g2,g3,g4,g5⟩
    refine hM.inj y ℓ C _ c b g1 h1 g2 h2 g3 h4 (fun e=>?_) g4
    subst e
    exact g5 ⟨B,h1,h3⟩
  ·have e:bO S ρ M w k=S k:=by unfold bO;rw[if_neg hr]
   rw[e]
   exact qG hM k
 refine(h.2 (bO S ρ M w) (fK F ρ M w own) vs w (hM.gl.mono hle) (D7 hM) (oH hM) hsf hargs).mono ?_
 rintro e w' ⟨v,u,S',rfl,hR,hle',hs,hf,hd,hr,hw⟩
 have hS2:S.le (pw S' ρ M):=by
  intro k o hk
  by_cases h:ji ρ M k
  ·rw[(iu hM h).1] at hk;cases hk
  ·rw[q8 h];exact hle' k o (hle k o hk)
 have hS2':∀k o,pw S' ρ M k=some o->S' k=some o:=by
  intro k o hk
  by_cases h:ji ρ M k
  ·rw[tR h] at hk;cases hk
  ·rw[q8 h] at hk;exact hk
 refine⟨v,u,M,pw S' ρ M,ρ,rfl,hk u hR,hS2,aw.le_refl _,⟨fun k o hk=>hs k o (hS2' k o hk),fun k o hk=>hf k o (lg hM k o hk),fun k=>?_,hM.dom,fun ℓ B hB=>?_,hM.inj,hM.gl.mono hS2⟩, .p (D8 (hfl u hR) hr),hw⟩
 ·cases hk2:pw S' ρ M k with
  |none=>exact .inl rfl
  |some o=>
   right
   rcases hd k with h|h
   ·rw[hS2' k o hk2] at h;cases h
   ·cases hk:F k with
    |none=>rfl
    |some o'=>rw[lg hM k o' hk] at h;cases h
 ·obtain⟨b,hb,hrB⟩:=hM.blk _ _ hB
  refine⟨b,hb,hrB.keep hS2 (aw.le_refl _) fun hl=>?_⟩
  have hlt:=hrB.lt hl
  obtain⟨o,ho⟩:∃o,w.heap[b.blk]? =some o:=⟨_,Array.getElem?_eq_getElem hlt⟩
  have hSb:=(hrB.off hl).1
  by_cases hrow:ji ρ M b.blk
  ·have e1:bO S ρ M w b.blk=some o:=by unfold bO;rw[if_pos hrow];exact ho
   refine⟨by rw[hs _ o (hle' _ o e1),ho],?_⟩
   rw[hSb,tR hrow]
  ·have hno:¬own ℓ:=by
    rintro⟨B',h1,h2⟩
    rw[hB] at h1
    cases h1
    exact hrow ⟨ℓ,B,b,hB,hb,h2,hl,rfl⟩
   have hk:=mM (F:=F) (w:=w) (own:=own) hB hb hl hno
   refine⟨by rw[hf b.blk o (hk.trans ho),ho],?_⟩
   rw[hSb,q8 hrow]
   rcases hd b.blk with h|h
   ·exact h
   ·rw[hk,ho] at h;cases h
theorem an.borrow {f:FuncId} {args:List AV} {R:AV->Prop} {K:AV->ai->Prop} {n:Nat} (h:ae P f (args.map (G8 M)) R) (hp:(args.map (G8 M)).all (bX n)=true) (hfl:∀u,R u->Ay u=true) (hk:∀u,R u->K u M):an P f args M K:=
 an.borrowG h (fun S F ρ w vs hM hv=>lY hp (S:=bO S ρ M w) (ρ:=ρ) ⟨by simpa using hv.1,fun i u hu=>by
  rw[List.getElem?_map] at hu
  obtain⟨u0,h0,rfl⟩:=Option.map_eq_some_iff.1 hu
  obtain⟨v,hv1,hvr⟩:=hv.2 i u0 h0
  exact⟨v,hv1,G9 hM hvr⟩⟩) hfl hk
theorem aM.leak {D:List Nat} {fr fr':List AV} {M':ai} (ℓ:Nat) {t:TypeId} {α:Type} {d:α} {enc:α->List AV} {l:List α} (hl:M ℓ=some (.row t d enc l))
  (h:aM D (fr.map (pV ℓ (.sl d enc l))) (M.set ℓ (.gone d enc l)) fr' M'):aM D fr M fr' M':=by
 rw[fj] at*
 intro S F ρ0 ρ a w h0 h1 hM hF
 obtain⟨S1,b,hle,hb,hM1,_⟩:=hM.leak hl
 obtain⟨S2,ρ2,k1,k2,k3,k4⟩:=h S1 F ρ0 ρ a w h0 h1 hM1 ⟨⟨by simpa using hF.1.1,fun i u hu=>by
  rw[List.getElem?_map] at hu
  obtain⟨u0,hu0,rfl⟩:=Option.map_eq_some_iff.1 hu
  obtain⟨v,e,hr⟩:=hF.1.2 i u0 hu0
  exact⟨v,e,qJ hM1 (ai.set_eq _ _ _) (hr.mono hle (aw.le_refl _))⟩⟩,hF.2⟩
 exact⟨S2,ρ2,ag.le_trans hle k1,k2,k3,k4⟩
end
theorem lI {p:Prop} (h:p:=by simp only[List.length_cons,List.length_nil];omega):p:=h
theorem nI {c k:Prop} (h':k) (h:c:=by first|omega|(dsimp only;omega)):gJ c k:=d7 h h'
theorem aI {c:Prop} {n:Int} {K:Int->Prop} (h':K n) (hc:c:=by exact trivial) (h:-9223372036854775808<=n/\n<=9223372036854775807:=by omega):kb c .i64 n K:=JC hc h h'
theorem uI {c:Prop} {n:Int} {K:Int->Prop} (h':K n) (hc:c:=by exact trivial) (h:0<=n/\n<=18446744073709551615:=by omega):kb c .u64 n K:=Oc hc h h'
theorem vI {c:Prop} {n:Int} {K:Int->Prop} (h':K n) (hc:c:=by exact trivial) (h:0<=n/\n<=255:=by omega):kb c .u8 n K:=Od hc h h'
theorem tI {p:Prop} {i:Decidable p} {k:Bool->Prop} (h':k true) (h:p:=by omega):wu p i k:=dH h h'
theorem fI {p:Prop} {i:Decidable p} {k:Bool->Prop} (h':k false) (h:¬p:=by omega):wu p i k:=eX h h'
theorem dI {P:Program} {tt:TT} {ops:List Oper} {fr:List AV} {M:ai} {K:List AV->ai->Prop} (h:fW P tt (some .any) ops ops fr M K) (hB:f6 tt .any ops=true:=by decide+kernel):g7 P tt ops fr M K:=IX hB h
theorem dR {P:Program} {tt:TT} {ops:List Oper} {fr:List AV} {M:ai} {K:List AV->ai->Prop} (h:fW P tt (some .rows) ops ops fr M K) (hB:f6 tt .rows ops=true:=by decide+kernel):g7 P tt ops fr M K:=LV hB h
theorem dP {P:Program} {tt:TT} {ops:List Oper} {fr:List AV} {M:ai} {K:List AV->ai->Prop} (h:fW P tt (some .pers) ops ops fr M K) (hB:f6 tt .pers ops=true:=by decide+kernel):g7 P tt ops fr M K:=LZ hB h
theorem pI {α β:Type} {enc:α->List AV} {l:List α} {enc':β->List AV} {l':List β} {bytes:Nat} {K:List α->Prop} (l'':List α) (h:l''.map enc=l'.map enc') (hk:K l'')
  (hb:(l.length+l'.length)*bytes<=140737488355328:=by first|omega|(dsimp only;omega)|(simp only[List.length_cons,List.length_nil,List.length_append];omega)):wy enc l enc' l' bytes K:=cB l'' h hb hk
theorem at_ {g k:Prop} (h':k) (h:k->g:=by first|exact fun h=>nI h|exact fun h=>aI h|exact fun h=>Oc trivial (by omega) h|exact fun h=>Od trivial (by omega) h|exact fun h=>dI h|exact fun h=>dR h|exact fun h=>dP h|exact fun h=>am rfl h|exact fun h=>pI _ rfl h|exact fun h=>ak _ rfl h|exact fun h=>tI h|exact fun h=>fI h):g:=h h'
theorem oP {P:Program} {M:ai} {f:FuncId} {args:List AV} {v:AV} {K:AV->ai->Prop} (h:ae P f args (fun u=>u=v)) (hk:K v M) (hp:args.all (bX 5)=true:=by exact rfl):an P f args M K:=
 an.of_pure (n:=5) h hp fun u hu=>by subst hu;exact hk
theorem oC {P:Program} {f:FuncId} {args:List AV} {v:AV} {K:AV->Prop} (h:ae P f args (fun u=>u=v)) (hk:K v) (hp:args.all (bX 5)=true:=by exact rfl):qK P f args K:=
 u3 5 h hp ⟨_,rfl⟩ fun u hu=>by subst hu;exact hk
theorem dC {P:Program} {M:ai} {f:FuncId} {args:List AV} {p:Prop} {i:Decidable p} {K:AV->ai->Prop} (h:ae P f args (fun u=>u= .bool (@decide p i))) (ht:p->K (.bool true) M) (hf:¬p->K (.bool false) M) (hp:args.all (bX 5)=true:=by exact rfl):an P f args M K:=
 an.dcall (n:=5) h hp ht hf
theorem dD {P:Program} {f:FuncId} {args:List AV} {p:Prop} {i:Decidable p} {K:AV->Prop} (h:ae P f args (fun u=>u= .bool (@decide p i))) (ht:p->K (.bool true)) (hf:¬p->K (.bool false)) (hp:args.all (bX 5)=true:=by exact rfl):qK P f args K:=
 L4 5 h hp ht hf
end
section
def mw (f:Nat->Option LM) (ρ:aw):aw:=fun x=>match f x with
 |some (.old ℓ)=>ρ ℓ
 |some (.nil sz)=>some ⟨0,0,0,sz,true⟩
 |none=>none
def nz (f:Nat->Option LM) (M:ai) (x:Nat) (B':aX):Prop:=
 match f x with
 |some (.old ℓ)=>∃B,M ℓ=some B/\(B'= .dead\/((∀b,B'.live b->B.live b)/\∀S F ρ w b,da S F ρ w b B->da S F (mw f ρ) w b B'))
 |some (.nil _)=>(∃(t:TypeId) (α:Type) (d:α) (enc:α->List AV),B'= .row t d enc [])\/∃t g,B'= .hdr t g 0
 |none=>False
structure oT (f:Nat->Option LM) (M M':ai):Prop where
 tell:∀x B',M' x=some B'->nz f M x B'
 keys:∀x y,f x=some y->M' x≠none
 olds:∀a b ℓ,f a=some (.old ℓ)->f b=some (.old ℓ)->M' a≠some .dead->M' b≠some .dead->a=b
section
variable {S F:ag} {ρ:aw} {M M':ai} {w:World} {P:Program} {tt:TT} {f:Nat->Option LM}
theorem oT.live (h:oT f M M') {x:Nat} {B':aX} (hB:M' x=some B') {b:dU} (hb:mw f ρ x=some b) (hl:B'.live b):∃ℓ B,f x=some (.old ℓ)/\M ℓ=some B/\ρ ℓ=some b/\B.live b/\B'≠ .dead:=by
 have ht:=h.tell x B' hB
 unfold nz at ht
 unfold mw at hb
 cases hf:f x with
 |none=>rw[hf] at hb;cases hb
 |some y=>
  rw[hf] at hb ht
  cases y with
  |old ℓ=>
   obtain⟨B,h1,h2⟩:=ht
   rcases h2 with rfl|⟨h2,h3⟩
   ·exact hl.elim
   ·exact⟨ℓ,B,rfl,h1,hb,h2 b hl,fun e=>by subst e;exact hl⟩
  |nil sz=>
   simp only[Option.some.injEq] at hb
   subst hb
   rcases ht with ⟨t,α,d,enc,rfl⟩|⟨t,g,rfl⟩
   ·simp[aX.live] at hl
   ·simp[aX.live] at hl
theorem ax.relabelG (hM:ax S F ρ M w) (h:oT f M M'):ax S F (mw f ρ) M' w:=by
 refine⟨hM.sw,hM.fw,hM.sf,fun x b hb=>?_,fun x B' hB'=>?_,fun x y B C b c h1 h2 h3 h4 h5 h6 hne=>?_,hM.gl⟩
 ·cases hf:f x with
  |none=>unfold mw at hb;rw[hf] at hb;cases hb
  |some y=>exact h.keys x y hf
 ·have ht:=h.tell x B' hB'
  unfold nz at ht
  cases hf:f x with
  |none=>rw[hf] at ht;exact ht.elim
  |some y=>
   rw[hf] at ht
   cases y with
   |old ℓ=>
    obtain⟨B,h1,h2⟩:=ht
    obtain⟨b,hb,hr⟩:=hM.blk _ _ h1
    refine⟨b,by unfold mw;rw[hf];exact hb,?_⟩
    rcases h2 with rfl|⟨_,h3⟩
    ·trivial
    ·exact h3 S F ρ w b hr
   |nil sz=>
    refine⟨⟨0,0,0,sz,true⟩,by unfold mw;rw[hf],?_⟩
    rcases ht with ⟨t,α,d,enc,rfl⟩|⟨t,g,rfl⟩
    ·exact⟨rfl,by simp, .inl ⟨rfl,rfl,rfl⟩⟩
    ·exact⟨[],rfl,fun i hi=>absurd hi (Nat.not_lt_zero _),rfl,by simp, .inl ⟨rfl,rfl,rfl⟩⟩
 ·obtain⟨ℓ1,B1,f1,m1,r1,l1,d1⟩:=h.live h1 h3 h5
  obtain⟨ℓ2,B2,f2,m2,r2,l2,d2⟩:=h.live h2 h4 h6
  refine hM.inj ℓ1 ℓ2 B1 B2 b c m1 m2 r1 r2 l1 l2 fun e=>?_
  subst e
  exact hne (h.olds x y ℓ1 f1 f2 (fun e=>d1 (by rw[h1] at e;exact Option.some.inj e)) (fun e=>d2 (by rw[h2] at e;exact Option.some.inj e)))
def nA (f:Nat->Option LM) (us us':List AV):Prop:=∀S ρ vs,be S ρ vs us->be S (mw f ρ) vs us'
def tS (f:Nat->Option LM) (u u':AV):Prop:=∀S ρ v,RV S ρ v u->RV S (mw f ρ) v u'
theorem vf {lm:b8} (h:∀k y,aA lm k=some y->f k=some y):aw.le (bK lm ρ) (mw f ρ):=by
 intro x b hb
 unfold bK at hb
 unfold mw
 cases hf:aA lm x with
 |none=>rw[hf] at hb;cases hb
 |some y=>
  rw[hf] at hb
  rw[h x y hf]
  cases y with
  |old ℓ=>exact hb
  |nil sz=>exact hb
theorem nA.by_ {lm:b8} (n:Nat) {us us':List AV} (h:∀k y,aA lm k=some y->f k=some y) (ha:ge lm n us us'):nA f us us':=
 fun _ _ vs hv=>((jv n).2 us us' vs ha hv).mono (ag.le_refl _) (vf h)
theorem tS.by_ {lm:b8} (n:Nat) {u u':AV} (h:∀k y,aA lm k=some y->f k=some y) (ha:mC lm n u u'):tS f u u':=
 fun _ _ v hv=>((jv n).1 u u' v ha hv).mono (ag.le_refl _) (vf h)
theorem tS.row {ℓ ℓ' n sz:Nat} (h:f ℓ'=some (.old ℓ)):tS f (.row ℓ n sz) (.row ℓ' n sz):=fun S ρ v hv=>by
 obtain⟨b,hb,h1,h2,h3,rfl⟩:=hv.row_inv
 exact .row ℓ' n sz b (by unfold mw;rw[h];exact hb) h1 h2 h3
theorem nA.one {u u':AV} (h:tS f u u'):nA f [u] [u']:=fun S ρ vs hv=>by
 obtain⟨v,vs',rfl,h1,h2⟩:=hv.cons_inv
 cases h2.nil_inv
 exact be.cons (h S ρ v h1) (be.nil _ _)
theorem aM.gen {D:List Nat} {fr fr':List AV} (f:Nat->Option LM) (h:oT f M M') (hD:∀d∈D,f d=some (.old d)) (hf:nA f fr fr'):aM D fr M fr' M':=by
 rw[fj]
 intro S F ρ0 ρ a w h0 h1 hM hF
 refine⟨S,mw f ρ,ag.le_refl _,fun ℓ b hb=>?_,hM.relabelG h,hf S ρ _ hF.1,hF.2⟩
 unfold mw
 rw[hD ℓ (h0 ℓ b hb)]
 exact h1 ℓ b hb
def sV (lm:b8) (ψ:Nat->Option Nat):Nat->Option LM:=fun x=>match aA lm x with
 |some y=>some y
 |none=>(ψ x).map .old
theorem l8 {lm:b8} {ψ:Nat->Option Nat}:∀k y,aA lm k=some y->sV lm ψ k=some y:=fun k y h=>by unfold sV;rw[h]
theorem Az {lm:b8} {ψ:Nat->Option Nat} {x o:Nat} (h:aA lm x=none) (h2:ψ x=some o):sV lm ψ x=some (.old o):=by unfold sV;rw[h,h2];rfl
def zg (lm:b8) (n:Nat) (M:ai):List (Nat×aX)->Prop
 |[]=>True
 |(ℓ',B')::r=>(match B' with
  | .hdr _ _ _=>True
  |B'=>match aA lm ℓ' with
   |some (.old ℓ)=>ie lm n (M ℓ) B'
   |some (.nil _)=>match B' with
    | .row _ _ _ l=>l=[]
    |_=>False
   |none=>False)/\zg lm n M r
theorem nB {lm:b8} {n:Nat}:∀{L:List (Nat×aX)},zg lm n M L->∀ℓ' B',(ℓ',B')∈L->(∃t g m,B'= .hdr t g m)\/(match aA lm ℓ' with
   |some (.old ℓ)=>ie lm n (M ℓ) B'
   |some (.nil _)=>match B' with
    | .row _ _ _ l=>l=[]
    |_=>False
   |none=>False)
 |[],_,_,_,h=>by cases h
 |(k,C)::r,h,ℓ',B',hm=>by
  rcases List.mem_cons.1 hm with e|hm
  ·injection e with e1 e2
   subst e1;subst e2
   have h1:=h.1
   cases B' with
   |hdr t g m=>exact .inl ⟨t,g,m,rfl⟩
   |_=>exact .inr h1
  ·exact nB h.2 ℓ' B' hm
def G' (lm:b8) (f:Nat->Option LM) (M:ai) (ℓ':Nat) (t:TypeId) (g':Nat->List AV) (m:Nat):Prop:=
 match aA lm ℓ' with
 |some (.old ℓ)=>∃g,M ℓ=some (.hdr t g m)/\∀i,i<m->nA f (g i) (g' i)
 |some (.nil _)=>m=0
 |none=>False
theorem tT {lm:b8} {n ℓ:Nat} {B':aX} (h:∀k y,aA lm k=some y->f k=some y) (hb:ie lm n (M ℓ) B'):∃B,M ℓ=some B/\(B'= .dead\/((∀b,B'.live b->B.live b)/\∀S F ρ w b,da S F ρ w b B->da S F (mw f ρ) w b B')):=by
 unfold ie at hb
 split at hb
 ·rename_i B hM;exact⟨B,hM, .inl rfl⟩
 ·exact hb.elim
 ·rename_i t cs t' cs' hM
  refine⟨_,hM, .inr ⟨fun _ _=>trivial,?_⟩⟩
  split at hb
  ·rename_i ht
   have:=Nat.eq_of_beq_eq_true ht
   subst this
   rintro S F ρ w b ⟨vs,h1,h2,h3⟩
   exact⟨vs,h1,((jv n).2 cs cs' _ hb h2).mono (ag.le_refl _) (vf h),h3⟩
  ·exact hb.elim
 ·rename_i t α d enc l t' α' d' enc' l' hM
  rw[hb] at hM
  exact⟨_,hM, .inr ⟨fun _ hl=>hl,fun S F ρ w b hr=>hr⟩⟩
 ·rename_i α d enc l α' d' enc' l' hM
  rw[hb] at hM
  exact⟨_,hM, .inr ⟨fun _ hl=>hl,fun S F ρ w b hr=>hr⟩⟩
 ·rename_i s p s' p' hM
  obtain⟨rfl,rfl⟩:=hb
  exact⟨_,hM, .inr ⟨fun _ hl=>hl,fun S F ρ w b hr=>hr⟩⟩
 ·rename_i hM
  rw[hb] at hM
  exact⟨_,hM, .inr ⟨fun _ hl=>hl,fun S F ρ w b hr=>hr⟩⟩
 ·rename_i hM
  rw[hb] at hM
  exact⟨_,hM, .inr ⟨fun _ hl=>hl,fun S F ρ w b hr=>hr⟩⟩
 ·exact hb.elim
def NE:aX->Bool
 | .row _ _ _ _=>true
 | .dead=>true
 |_=>false
structure L5 (lm:b8) (L:List (Nat×aX)) (N:ai) (ψ:Nat->Option Nat) (M:ai):Prop where
 blk:∀x B',N x=some B'->aA lm x=none/\ai.ofL L x=none/\∃o B,ψ x=some o/\M o=some B/\(B'= .dead\/(B'=B/\NE B=true))
 key:∀x o,ψ x=some o->N x≠none
 inj:∀x y o,ψ x=some o->ψ y=some o->N x≠some .dead->N y≠some .dead->x=y
 far:∀x o k,ψ x=some o->N x≠some .dead->aA lm k=some (.old o)->ai.ofL L k=some .dead
theorem AA:∀{lm:b8} {L:List (Nat×aX)},f5 L lm=true->∀{a b ℓ:Nat},aA lm a=some (.old ℓ)->aA lm b=some (.old ℓ)->ai.ofL L a≠some .dead->ai.ofL L b≠some .dead->a=b:=by
 intro lm L ho a b ℓ ha hb h1 h2
 unfold f5 at ho
 have fd:∀(l:b8) {c:Nat},aA l c=some (.old ℓ)->ai.ofL L c≠some .dead->aA (l.filter fun p=>gx L p.1) c=some (.old ℓ):=by
  intro l
  induction l with
  |nil=>intro c h _;simp[aA] at h
  |cons p r ih=>
   intro c h hd
   obtain⟨k,y⟩:=p
   simp only[aA] at h
   by_cases e:Nat.beq k c=true
   ·rw[e] at h
    have e1:=Nat.eq_of_beq_eq_true e
    subst e1
    have hnd:gx L k=true:=by
     unfold gx
     split
     ·rename_i h0;exact absurd h0 hd
     ·rfl
    rw[List.filter_cons,if_pos hnd]
    simp only[aA,e]
    exact h
   ·rw[Bool.not_eq_true] at e
    rw[e] at h
    rw[List.filter_cons]
    split
    ·simp only[aA,e];exact ih h hd
    ·exact ih h hd
 exact qI ho (fd lm ha h1) (fd lm hb h2)
theorem zh (lm:b8) (L:List (Nat×aX)) (N:ai) (ψ:Nat->Option Nat) (n:Nat) (hs:(gX lm L&&f5 L lm)=true) (hm:zg lm n M L)
  (hh:∀ℓ' t g' m,(ℓ',aX.hdr t g' m)∈L->G' lm (sV lm ψ) M ℓ' t g' m) (hN:L5 lm L N ψ M):oT (sV lm ψ) M (c0 L N):=by
 rw[Bool.and_eq_true] at hs
 have hfree:∀x,aA lm x=none->∀B,ai.ofL L x=some B->False:=by
  intro x hx B hB
  have hmem:=eO hB
  rcases nB hm x B hmem with ⟨t,g,m,rfl⟩|h
  ·have:=hh x t g m hmem
   unfold G' at this
   rw[hx] at this
   exact this
  ·rw[hx] at h;exact h
 refine⟨fun x B' hB'=>?_,fun x y hy=>?_,fun a b ℓ ha hb h1 h2=>?_⟩
 ·unfold c0 at hB'
  cases hL:ai.ofL L x with
  |some B=>
   rw[hL] at hB'
   cases hB'
   have hmem:=eO hL
   rcases nB hm x B' hmem with ⟨t,g,m,rfl⟩|h
   ·have h2:=hh x t g m hmem
    unfold G' at h2
    unfold nz
    cases hf:aA lm x with
    |none=>rw[hf] at h2;exact h2.elim
    |some y=>
     rw[l8 x y hf]
     rw[hf] at h2
     cases y with
     |old ℓ=>
      obtain⟨g0,h3,h4⟩:=h2
      refine⟨_,h3, .inr ⟨fun _ hl=>hl,?_⟩⟩
      rintro S F ρ w b ⟨l,hlm,hg,hr⟩
      exact⟨l,hlm,fun i hi=>h4 i hi S ρ _ (hg i hi),hr⟩
     |nil sz=>subst h2;exact .inr ⟨t,g,rfl⟩
   ·unfold nz
    cases hf:aA lm x with
    |none=>rw[hf] at h;exact h.elim
    |some y=>
     rw[l8 x y hf]
     rw[hf] at h
     cases y with
     |old ℓ=>exact tT l8 h
     |nil sz=>
      simp only at h
      split at h
      ·rename_i t α d enc l
       subst h
       exact .inl ⟨_,_,_,_,rfl⟩
      ·exact h.elim
  |none=>
   rw[hL] at hB'
   obtain⟨h1,_,o,B,h3,h4,h5⟩:=hN.blk x B' hB'
   unfold nz
   rw[Az h1 h3]
   refine⟨B,h4,?_⟩
   rcases h5 with rfl|⟨rfl,h6⟩
   ·exact .inl rfl
   ·refine .inr ⟨fun _ hl=>hl,fun S F ρ w b hr=>?_⟩
    cases B' with
    |row t d enc l=>exact hr
    |dead=>trivial
    |_=>cases h6
 ·unfold c0
  cases hL:ai.ofL L x with
  |some B=>simp
  |none=>
   cases hf:aA lm x with
   |some z=>
    have:=List.all_eq_true.1 hs.1 _ (cN hf)
    simp only at this
    rw[hL] at this;cases this
   |none=>
    unfold sV at hy
    rw[hf] at hy
    cases hψ:ψ x with
    |none=>rw[hψ] at hy;cases hy
    |some o=>exact hN.key x o hψ
 ·have src:∀c,sV lm ψ c=some (.old ℓ)->c0 L N c≠some .dead->(aA lm c=some (.old ℓ)/\ai.ofL L c≠some .dead)\/(aA lm c=none/\ψ c=some ℓ/\N c≠some .dead):=by
   intro c hc hd
   unfold sV at hc
   cases hf:aA lm c with
   |some z=>
    rw[hf] at hc
    cases hc
    refine .inl ⟨rfl,fun e=>hd ?_⟩
    unfold c0;rw[e]
   |none=>
    rw[hf] at hc
    cases hψ:ψ c with
    |none=>rw[hψ] at hc;cases hc
    |some o=>
     rw[hψ] at hc
     cases hc
     refine .inr ⟨rfl,rfl,fun e=>hd ?_⟩
     unfold c0
     cases hL:ai.ofL L c with
     |some B=>exact(hfree c hf B hL).elim
     |none=>exact e
  rcases src a ha h1 with ⟨a1,a2⟩|⟨a1,a2,a3⟩
  ·rcases src b hb h2 with ⟨b1,b2⟩|⟨b1,b2,b3⟩
   ·exact AA hs.2 a1 b1 a2 b2
   ·exact absurd (hN.far b ℓ a b2 b3 a1) a2
  ·rcases src b hb h2 with ⟨b1,b2⟩|⟨b1,b2,b3⟩
   ·exact absurd (hN.far a ℓ b a2 a3 b1) b2
   ·exact hN.inj a b ℓ a2 b2 a3 b3
end
end
section
def Ha:List (Nat×Nat)->Nat->Option Nat
 |[],_=>none
 |(y,k)::r,x=>match Nat.beq y x with
  |true=>some k
  |false=>Ha r x
def D9:List (Nat×Nat)->Nat->Bool
 |[],_=>false
 |(_,k')::r,k=>match Nat.beq k' k with
  |true=>true
  |false=>D9 r k
def zi (p m:Nat) (a:List (Nat×Nat)) (x:Nat):Option Nat:=match Ha a x with
 |some k=>some k
 |none=>match Nat.ble p x&&Nat.blt (x-p) m with
  |true=>(match D9 a (x-p) with
   |true=>none
   |false=>some (x-p))
  |false=>none
def sQ (p:Nat):List (Nat×Nat)->Nat->Nat
 |[],k=>p+k
 |(y,k')::r,k=>match Nat.beq k' k with
  |true=>y
  |false=>sQ p r k
def Lz (p m:Nat):List (Nat×Nat)->Prop
 |[]=>True
 |(y,k)::r=>y<p/\k<m/\(∀q∈r,q.1≠y/\q.2≠k)/\Lz p m r
theorem wZ {a b:Nat} (h:a≠b):Nat.beq a b=false:=by rw[Bool.eq_false_iff];exact fun e=>h (Nat.eq_of_beq_eq_true e)
theorem nC:∀{a:List (Nat×Nat)} {x k:Nat},Ha a x=some k->(x,k)∈a
 |(y,k')::r,x,k,h=>by
  rw[Ha] at h
  split at h
  ·rename_i hb
   have:=Nat.eq_of_beq_eq_true hb
   subst this
   cases h
   exact List.mem_cons_self
  ·exact List.mem_cons_of_mem _ (nC h)
theorem nD {p m:Nat}:∀{a:List (Nat×Nat)} {x k:Nat},Lz p m a->(x,k)∈a->x<p/\k<m/\Ha a x=some k/\sQ p a k=x/\D9 a k=true
 |(y,k')::r,x,k,hw,h=>by
  rcases List.mem_cons.1 h with e|h
  ·injection e with e1 e2
   subst e1;subst e2
   exact⟨hw.1,hw.2.1,by rw[Ha,Nat.beq_refl],by rw[sQ,Nat.beq_refl],by rw[D9,Nat.beq_refl]⟩
  ·obtain⟨h1,h2,h3,h4,h5⟩:=nD hw.2.2.2 h
   have hne:=hw.2.2.1 _ h
   refine⟨h1,h2,?_,?_,?_⟩
   ·rw[Ha,wZ (fun e=>hne.1 e.symm)];exact h3
   ·rw[sQ,wZ (fun e=>hne.2 e.symm)];exact h4
   ·rw[D9,wZ (fun e=>hne.2 e.symm)];exact h5
theorem pY {p:Nat}:∀{a:List (Nat×Nat)} {k:Nat},D9 a k=false->sQ p a k=p+k
 |[],k,_=>rfl
 |(y,k')::r,k,h=>by
  rw[D9] at h
  split at h
  ·cases h
  ·rename_i hb
   rw[sQ,hb]
   exact pY h
theorem vg:∀{a:List (Nat×Nat)} {k:Nat},D9 a k=true->∃x,(x,k)∈a
 |(y,k')::r,k,h=>by
  rw[D9] at h
  split at h
  ·rename_i hb
   have:=Nat.eq_of_beq_eq_true hb
   subst this
   exact⟨y,List.mem_cons_self⟩
  ·obtain⟨x,hx⟩:=vg h
   exact⟨x,List.mem_cons_of_mem _ hx⟩
theorem JU {p m:Nat} {a:List (Nat×Nat)} {k:Nat} (h:Lz p m a):sQ p a k=p+k\/∃q∈a,q.1=sQ p a k/\q.2=k:=by
 cases hi:D9 a k with
 |false=>exact .inl (pY hi)
 |true=>
  obtain⟨x,hx⟩:=vg hi
  exact .inr ⟨_,hx,(nD h hx).2.2.2.1.symm,rfl⟩
theorem nE {p m:Nat} {a:List (Nat×Nat)} {x k:Nat} (hw:Lz p m a) (h:zi p m a x=some k):k<m/\sQ p a k=x:=by
 unfold zi at h
 split at h
 ·rename_i k' hk
  cases h
  have:=nD hw (nC hk)
  exact⟨this.2.1,this.2.2.2.1⟩
 ·split at h
  ·rename_i hb
   rw[Bool.and_eq_true] at hb
   have h1:=Nat.le_of_ble_eq_true hb.1
   have h2:x-p<m:=by have:=hb.2;simp[Nat.blt] at this;omega
   split at h
   ·cases h
   ·rename_i hi
    cases h
    exact⟨h2,by rw[pY hi];omega⟩
  ·cases h
theorem zj {p m:Nat} {a:List (Nat×Nat)} {k:Nat} (hw:Lz p m a) (h:k<m):zi p m a (sQ p a k)=some k:=by
 cases hi:D9 a k with
 |true=>
  obtain⟨x,hx⟩:=vg hi
  have:=nD hw hx
  rw[this.2.2.2.1]
  unfold zi
  rw[this.2.2.1]
 |false=>
  rw[pY hi]
  have hn:Ha a (p+k)=none:=by
   cases hf:Ha a (p+k) with
   |none=>rfl
   |some k'=>
    have:=(nD hw (nC hf)).1
    omega
  unfold zi
  rw[hn]
  have h1:Nat.ble p (p+k)=true:=Nat.ble_eq_true_of_le (by omega)
  have h2:Nat.blt (p+k-p) m=true:=by simp[Nat.blt];omega
  rw[h1,h2,Nat.add_sub_cancel_left,hi]
  rfl
theorem Hb {p m:Nat} {a:List (Nat×Nat)} {x k:Nat} (h:zi p m a x=some k):p<=x\/∃q∈a,q.1=x:=by
 unfold zi at h
 split at h
 ·rename_i k' hk
  exact .inr ⟨_,nC hk,rfl⟩
 ·split at h
  ·rename_i hb
   rw[Bool.and_eq_true] at hb
   exact .inl (Nat.le_of_ble_eq_true hb.1)
  ·cases h
def q9 (ti:TypeId) (σ:Nat->Option Nat) (c:Nat->List Int):ai:=fun x=>match σ x with
 |some k=>some (.row ti 0 aD (c k))
 |none=>none
section
variable {M:ai} {P:Program} {tt:TT}
structure Ea (P:Program) (tt:TT) (D:List Nat) (c:Code) (fr:List AV) (M:ai) (Q:bR):Prop where
 out:∃fr' M',aM D fr M fr' M'/\fx P tt D c fr' M' Q
theorem JV {D:List Nat} {c:Code} {fr fr':List AV} {M M':ai} {Q:bR} (hs:aM D fr M fr' M') (h:fx P tt D c fr' M' Q):Ea P tt D c fr M Q:=⟨⟨fr',M',hs,h⟩⟩
theorem aM.refl (D:List Nat) (fr:List AV) (M:ai):aM D fr M fr M:=by
 rw[fj]
 intro S F ρ0 ρ a w h0 h1 hM hF
 exact⟨S,ρ,ag.le_refl _,h1,hM,hF⟩
theorem vj {D:List Nat} {c:Code} {fr:List AV} {M:ai} {Q:bR} (h:fx P tt D c fr M Q):Ea P tt D c fr M Q:=⟨⟨fr,M,aM.refl D fr M,h⟩⟩
theorem aE.loopM {D:List Nat} (hT:aW P tt=true) (hm:P.follows .mixedOrders=true) {c:Code} {fr:List AV} {M:ai} {Q:bR} {X:Type _} (I:X->Prop) (us:X->List (Nat×AV)) (Mf:X->ai) (μ:X->Nat) (x0:X) (hi:I x0)
  (h:mQ (jO c []) fun ms=>ny fr 0 ms fun fr0=>aM D fr M (jh fr0 (us x0)) (Mf x0)/\
   ∀x,I x->q6 fr0 (us x) fun fr1=>Ea P tt D c fr1 (Mf x) (jK D I (fun x=>jh fr0 (us x)) Mf μ x Q)):aE P D (.loop c) fr M Q:=by
 rw[jP] at h
 obtain⟨fr0,h0,h⟩:=iJ _ _ _ _ h
 refine aE.loop I (fun x=>jh fr0 (us x)) Mf μ x0 hi h0 fun x hx=>?_
 have:=h x hx
 rw[ll] at this
 obtain⟨fr2,M2,hs,hc⟩:=this.out
 exact aE.sub hs (aZ hT hm _ _ _ _ hc)
end
end
end Go.Proofs.YtokjgegkhlkopaaGreatDoor
