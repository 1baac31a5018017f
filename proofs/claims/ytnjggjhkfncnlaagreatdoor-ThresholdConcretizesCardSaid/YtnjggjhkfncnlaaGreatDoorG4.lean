import Derived.Test.YtnjggjhkfncnlaaGreatDoorG3
import Derived.Scope
set_option linter.unusedVariables false
set_option linter.unusedSimpArgs false
namespace Go.Proofs.YtnjggjhkfncnlaaGreatDoor
inductive J5
 |normal
 |exit (id:Nat)
 |ret
def Eu:Exit->Option J5
 | .normal=>some .normal
 | .exit id=>some (.exit id)
 | .ret=>some .ret
 |_=>none
abbrev fA:=J5->List AV->aj->Prop
def py (ρ:aD) (D:List Nat):Prop:=∀ℓ b,ρ ℓ=some b->ℓ∈D
structure aH (P:Program) (D:List Nat) (c:Code) (fr:List AV) (M:aj) (Q:fA):Prop where
 out:∀S F ρ0 ρ a w,py ρ0 D->aD.le ρ0 ρ->aF S F ρ M w->eZ S ρ a fr->c.wp P (fun e a' w'=>∃x,Eu e=some x/\cR S F ρ0 w (Q x) a' w') a w
theorem cY {P:Program} {D:List Nat} {c:Code} {fr:List AV} {M:aj} {Q:fA}:aH P D c fr M Q↔(∀S F ρ0 ρ a w,py ρ0 D->aD.le ρ0 ρ->aF S F ρ M w->eZ S ρ a fr->c.wp P (fun e a' w'=>∃x,Eu e=some x/\cR S F ρ0 w (Q x) a' w') a w):=⟨fun h=>h.out,fun h=>⟨h⟩⟩
structure fL (P:Program) (tt:TT) (ops:List Oper) (fr:List AV) (M:aj) (K:List AV->aj->Prop):Prop where
 out:(∃r,gm tt r ops=true/\dv P tt (some r) ops ops fr M K)\/(∃r ds,jA tt r ds ops=true/\rz P tt r ds ops ops fr M K)\/∃d,bd P tt d ops K ops.length [] fr M
theorem dk {P:Program} {tt:TT} {ops:List Oper} {fr:List AV} {M:aj} {K:List AV->aj->Prop}:fL P tt ops fr M K↔((∃r,gm tt r ops=true/\dv P tt (some r) ops ops fr M K)\/(∃r ds,jA tt r ds ops=true/\rz P tt r ds ops ops fr M K)\/∃d,bd P tt d ops K ops.length [] fr M):=⟨fun h=>h.out,fun h=>⟨h⟩⟩
theorem Be {P:Program} {tt:TT} {ops:List Oper} {fr:List AV} {M:aj} {K:List AV->aj->Prop} (hB:gm tt .any ops=true) (h:dv P tt (some .any) ops ops fr M K):fL P tt ops fr M K:=by
 rw[dk];exact .inl ⟨_,hB,h⟩
theorem IG {P:Program} {tt:TT} {ops:List Oper} {fr:List AV} {M:aj} {K:List AV->aj->Prop} (hB:gm tt .rows ops=true) (h:dv P tt (some .rows) ops ops fr M K):fL P tt ops fr M K:=by
 rw[dk];exact .inl ⟨_,hB,h⟩
theorem Bf {P:Program} {tt:TT} {ops:List Oper} {fr:List AV} {M:aj} {K:List AV->aj->Prop} (hB:gm tt .fresh ops=true) (h:dv P tt (some .fresh) ops ops fr M K):fL P tt ops fr M K:=by
 rw[dk];exact .inl ⟨_,hB,h⟩
theorem IH {P:Program} {tt:TT} {ops:List Oper} {fr:List AV} {M:aj} {K:List AV->aj->Prop} (hB:gm tt .flat ops=true) (h:dv P tt (some .flat) ops ops fr M K):fL P tt ops fr M K:=by
 rw[dk];exact .inl ⟨_,hB,h⟩
theorem mm {P:Program} {tt:TT} {ops:List Oper} {fr:List AV} {M:aj} {K:List AV->aj->Prop} (hB:gm tt .own ops=true) (h:dv P tt (some .own) ops ops fr M K):fL P tt ops fr M K:=by
 rw[dk];exact .inl ⟨_,hB,h⟩
theorem Bg {P:Program} {tt:TT} {ops:List Oper} {fr:List AV} {M:aj} {K:List AV->aj->Prop} (r:aM) (ds:List Nat) (hB:jA tt r ds ops=true) (h:rz P tt r ds ops ops fr M K):fL P tt ops fr M K:=by
 rw[dk];exact .inr (.inl ⟨_,_,hB,h⟩)
theorem mn {P:Program} {tt:TT} {ops:List Oper} {fr:List AV} {M:aj} {K:List AV->aj->Prop} (h:bd P tt (some .own) ops K ops.length [] fr M):fL P tt ops fr M K:=by
 rw[dk];exact .inr (.inr ⟨_,h⟩)
theorem II {P:Program} {tt:TT} {ops:List Oper} {fr:List AV} {M:aj} {K:List AV->aj->Prop} (h:bd P tt none ops K ops.length [] fr M):fL P tt ops fr M K:=by
 rw[dk];exact .inr (.inr ⟨_,h⟩)
theorem IJ {P:Program} {tt:TT} {ops:List Oper} {fr:List AV} {M:aj} {K:List AV->aj->Prop} (hB:gm tt .pers ops=true) (h:dv P tt (some .pers) ops ops fr M K):fL P tt ops fr M K:=by
 rw[dk];exact .inl ⟨_,hB,h⟩
def cy (P:Program) (tt:TT) (D:List Nat):Code->List AV->aj->fA->Prop
 | .skip,fr,M,Q=>Q .normal fr M
 | .region _ ops draw,fr,M,Q=>match draw with
  |false=>dv P tt none ops.toList ops.toList fr M (Q .normal)
  |true=>fL P tt ops.toList fr M (Q .normal)
 | .seq a b,fr,M,Q=>cy P tt D a fr M fun e fr' M'=>match e with
  | .normal=>cy P tt D b fr' M' Q
  | .exit i=>Q (.exit i) fr' M'
  | .ret=>Q .ret fr' M'
 | .cond c x y,fr,M,Q=>JR fr c fun u=>match u with
  | .bool true=>cy P tt D x fr M Q
  | .bool false=>cy P tt D y fr M Q
  |_=>False
 | .block id c,fr,M,Q=>cy P tt D c fr M fun e fr' M'=>match e with
  | .normal=>Q .normal fr' M'
  | .exit i=>match Nat.beq i id with
   |true=>Q .normal fr' M'
   |false=>Q (.exit i) fr' M'
  | .ret=>Q .ret fr' M'
 | .exit id,fr,M,Q=>Q (.exit id) fr M
 | .ret,fr,M,Q=>Q .ret fr M
 | .loop c,fr,M,Q=>aH P D (.loop c) fr M Q
 | .rangeFunc f ps as c,fr,M,Q=>aH P D (.rangeFunc f ps as c) fr M Q
 | .scope c,fr,M,Q=>cy P tt D c fr M Q
 | .label _,fr,M,Q=>Q .normal fr M
 | .goto l,fr,M,Q=>aH P D (.goto l) fr M Q
 | .refuse s,fr,M,Q=>aH P D (.refuse s) fr M Q
section
variable {P:Program} {tt:TT} {D:List Nat}
theorem aH.mono {c:Code} {fr:List AV} {M:aj} {Q Q':fA} (h:aH P D c fr M Q) (hq:∀e f M,Q e f M->Q' e f M):aH P D c fr M Q':=by
 simp only[cY] at*
 intro S F ρ0 ρ a w h0 h1 hM hF
 exact wp_mono (h S F ρ0 ρ a w h0 h1 hM hF) fun e a' w' ⟨x,hx,ha⟩=>⟨x,hx,ha.mono fun f M=>hq x f M⟩
theorem gY (hT:bh P tt=true) (hm:P.follows .mixedOrders=true):∀(c:Code) (fr:List AV) (M:aj) (Q:fA),cy P tt D c fr M Q->aH P D c fr M Q:=by
 intro c
 induction c with
 |skip=>
  intro fr M Q h
  rw[cY]
  intro S F ρ0 ρ a w h0 h1 hM hF
  exact wp_skip ⟨.normal,rfl,fr,M,S,ρ,h,ai.le_refl _,h1,hM,hF,du.refl _⟩
 |region id ops draw=>
  intro fr M Q h
  rw[cY]
  intro S F ρ0 ρ a w h0 h1 hM hF
  simp only[cy] at h
  have hQ:∀a' w',cR S F ρ w (Q .normal) a' w'->∃x,Eu .normal=some x/\cR S F ρ0 w (Q x) a' w':=fun a' w' ⟨f,M',S',ρ',k,k1,k2,k3⟩=>⟨.normal,rfl,f,M',S',ρ',k,k1,aD.le_trans h1 k2,k3⟩
  have e:ops=ops.toList.toArray:=by simp
  cases draw with
  |false=>
   rw[e]
   exact wp_region_lit (xT hT ops.toList S ρ w a fr M h hM hF hQ)
  |true=>
   simp only at h
   rw[dk] at h
   rw[e]
   rcases h with ⟨r,h1,h2⟩|⟨r,ds,h1,h2⟩|⟨d,h2⟩
   ·exact uD hT hm h1 h2 hM hF hQ
   ·exact sJ hT hm h1 h2 hM hF hQ
   ·exact sK hT hm h2 hM hF hQ
 |seq x y ihx ihy=>
  intro fr M Q h
  have hx:=ihx fr M _ h
  simp only[cY] at*
  intro S F ρ0 ρ a w h0 h1 hM hF
  refine wp_seq (wp_mono (hx S F ρ0 ρ a w h0 h1 hM hF) ?_)
  rintro e a' w' ⟨ex,he,f,M',S',ρ',k,k1,k2,k3,k4,k5⟩
  cases e with
  |normal=>
   cases he
   refine wp_mono (ihy f M' Q k S' F ρ0 ρ' a' w' h0 k2 k3 k4) ?_
   rintro e2 a2 w2 ⟨ex2,he2,ha⟩
   exact⟨ex2,he2,ha.trans k1 (aD.le_refl _) k5⟩
  |exit i=>cases he;exact⟨_,rfl,f,M',S',ρ',k,k1,k2,k3,k4,k5⟩
  |ret=>cases he;exact⟨_,rfl,f,M',S',ρ',k,k1,k2,k3,k4,k5⟩
  |goto l=>cases he
  |panic l=>cases he
  |outgrown=>cases he
 |cond c x y ihx ihy=>
  intro fr M Q h
  simp only[cy,sE] at h
  rw[cY]
  intro S F ρ0 ρ a w h0 h1 hM hF
  have hc:=hF.eval c
  split at h
  ·rename_i hb
   rw[hb] at hc
   have:=ihx fr M Q h
   rw[cY] at this
   exact wp_cond_true hc.bool_inv (this S F ρ0 ρ a w h0 h1 hM hF)
  ·rename_i hb
   rw[hb] at hc
   have:=ihy fr M Q h
   rw[cY] at this
   exact wp_cond_false hc.bool_inv (this S F ρ0 ρ a w h0 h1 hM hF)
  ·exact h.elim
 |block id c ih=>
  intro fr M Q h
  have hx:=ih fr M _ h
  simp only[cY] at*
  intro S F ρ0 ρ a w h0 h1 hM hF
  refine wp_block (wp_mono (hx S F ρ0 ρ a w h0 h1 hM hF) ?_)
  rintro e a' w' ⟨ex,he,f,M',S',ρ',k,k1,k2,k3,k4,k5⟩
  cases e with
  |normal=>cases he;exact⟨_,rfl,f,M',S',ρ',k,k1,k2,k3,k4,k5⟩
  |exit i=>
   cases he
   simp only[Exit.inBlock]
   simp only at k
   split at k
   ·rename_i hb
    rw[if_pos (Nat.eq_of_beq_eq_true hb)]
    exact⟨_,rfl,f,M',S',ρ',k,k1,k2,k3,k4,k5⟩
   ·rename_i hb
    rw[if_neg (fun e=>by subst e;simp at hb)]
    exact⟨_,rfl,f,M',S',ρ',k,k1,k2,k3,k4,k5⟩
  |ret=>cases he;exact⟨_,rfl,f,M',S',ρ',k,k1,k2,k3,k4,k5⟩
  |goto l=>cases he
  |panic l=>cases he
  |outgrown=>cases he
 |exit id=>
  intro fr M Q h
  rw[cY]
  intro S F ρ0 ρ a w h0 h1 hM hF
  exact wp_exit ⟨_,rfl,fr,M,S,ρ,h,ai.le_refl _,h1,hM,hF,du.refl _⟩
 |ret=>
  intro fr M Q h
  rw[cY]
  intro S F ρ0 ρ a w h0 h1 hM hF
  exact wp_ret ⟨_,rfl,fr,M,S,ρ,h,ai.le_refl _,h1,hM,hF,du.refl _⟩
 |loop c _=>intro fr M Q h;exact h
 |rangeFunc f ps as c _ _=>intro fr M Q h;exact h
 |scope c ih=>
  intro fr M Q h
  have h2:=ih fr M Q h
  rw[cY] at h2⊢
  intro S F ρ0 ρ a w h0 h1 hM hF
  refine wp_scope_straight (wp_mono (h2 S F ρ0 ρ a w h0 h1 hM hF) ?_)
  rintro e a' w' ⟨x,hx,ha⟩
  cases e with
  |goto l=>cases hx
  |normal=>exact⟨x,hx,ha⟩
  |exit i=>exact⟨x,hx,ha⟩
  |ret=>exact⟨x,hx,ha⟩
  |panic l=>cases hx
  |outgrown=>cases hx
 |label l=>
  intro fr M Q h
  rw[cY]
  intro S F ρ0 ρ a w h0 h1 hM hF
  exact wp_label ⟨.normal,rfl,fr,M,S,ρ,h,ai.le_refl _,h1,hM,hF,du.refl _⟩
 |goto l=>intro fr M Q h;exact h
 |refuse s=>intro fr M Q h;exact h
structure aL (D:List Nat) (fr:List AV) (M:aj) (fr':List AV) (M':aj):Prop where
 out:∀S F ρ0 ρ a w,py ρ0 D->aD.le ρ0 ρ->aF S F ρ M w->eZ S ρ a fr->∃S' ρ',S.le S'/\aD.le ρ0 ρ'/\aF S' F ρ' M' w/\eZ S' ρ' a fr'
theorem oy {D:List Nat} {fr:List AV} {M:aj} {fr':List AV} {M':aj}:aL D fr M fr' M'↔(∀S F ρ0 ρ a w,py ρ0 D->aD.le ρ0 ρ->aF S F ρ M w->eZ S ρ a fr->∃S' ρ',S.le S'/\aD.le ρ0 ρ'/\aF S' F ρ' M' w/\eZ S' ρ' a fr'):=⟨fun h=>h.out,fun h=>⟨h⟩⟩
theorem aH.sub {c:Code} {fr fr':List AV} {M M':aj} {Q:fA} (hs:aL D fr M fr' M') (h:aH P D c fr' M' Q):aH P D c fr M Q:=by
 simp only[cY,oy] at*
 intro S F ρ0 ρ a w h0 h1 hM hF
 obtain⟨S',ρ',k1,k2,k3,k4⟩:=hs S F ρ0 ρ a w h0 h1 hM hF
 refine wp_mono (h S' F ρ0 ρ' a w h0 k2 k3 k4) ?_
 rintro e a' w' ⟨x,hx,ha⟩
 exact⟨x,hx,ha.trans k1 (aD.le_refl _) (du.refl _)⟩
def uH {X:Type _} (D:List Nat) (I:X->Prop) (frI:X->List AV) (MI:X->aj) (μ:X->Nat) (x:X) (Q:fA):fA:=fun e fr M=>match e with
 | .normal=>∃x',aL D fr M (frI x') (MI x')/\I x'/\μ x'<μ x
 | .exit i=>Q (.exit i) fr M
 | .ret=>Q .ret fr M
theorem aH.loop {c:Code} {fr:List AV} {M:aj} {Q:fA} {X:Type _} (I:X->Prop) (frI:X->List AV) (MI:X->aj) (μ:X->Nat) (x0:X) (hi:I x0) (h0:aL D fr M (frI x0) (MI x0))
  (h:∀x,I x->aH P D c (frI x) (MI x) (uH D I frI MI μ x Q)):aH P D (.loop c) fr M Q:=by
 refine aH.sub h0 ?_
 rw[cY]
 intro S F ρ0 ρ a w hin h1 hM hF
 have key:∀(n:Nat) (x:X) (S1:ai) (ρ1:aD) (a1:Act) (w1:World),μ x=n->I x->S.le S1->du w w1->aD.le ρ0 ρ1->aF S1 F ρ1 (MI x) w1->eZ S1 ρ1 a1 (frI x)->
   ∀b k cs,∃e a' w',(∃x,Eu e=some x/\cR S F ρ0 w (Q x) a' w')/\Arrives P (lone (b.at a1 (.code c:: .inLoop c::k)) cs w1) b k cs e a' w':=by
  intro n
  induction n using Nat.strongRecOn with
  |_ n ih=>
   intro x S1 ρ1 a1 w1 hn hIx hS hw hρ hM1 hF1 b k cs
   have hx:=h x hIx
   rw[cY] at hx
   obtain⟨e,a2,w2,⟨ex,he,f,M',S2,ρ2,kk,k1,k2,k3,k4,k5⟩,harr⟩:=hx S1 F ρ0 ρ1 a1 w1 hin hρ hM1 hF1 b (.inLoop c::k) cs
   cases e with
   |normal=>
    cases he
    obtain⟨x',hsub,hIx',hlt⟩:=kk
    rw[oy] at hsub
    obtain⟨S3,ρ3,j1,j2,j3,j4⟩:=hsub S2 F ρ0 ρ2 a2 w2 hin k2 k3 k4
    obtain⟨e3,a3,w3,hq,harr3⟩:=ih (μ x') (hn▸hlt) x' S3 ρ3 a2 w2 rfl hIx' (ai.le_trans hS (ai.le_trans k1 j1)) (hw.trans k5) j2 j3 j4 b k cs
    exact⟨e3,a3,w3,hq, .of_steps (Steps.trans harr (.one step_inLoop)) harr3⟩
   |exit i=>cases he;exact⟨_,a2,w2,⟨_,rfl,f,M',S2,ρ2,kk,ai.le_trans hS k1,k2,k3,k4,hw.trans k5⟩, .pass (x:= .inLoop c) rfl (fun _ _=> .inl (by simp)) harr⟩
   |ret=>cases he;exact⟨_,a2,w2,⟨_,rfl,f,M',S2,ρ2,kk,ai.le_trans hS k1,k2,k3,k4,hw.trans k5⟩, .pass (x:= .inLoop c) rfl (fun _ _=> .inl (by simp)) harr⟩
   |goto l=>cases he
   |panic l=>cases he
   |outgrown=>cases he
 intro b k cs
 obtain⟨e,a',w',hq,harr⟩:=key _ x0 S ρ a w rfl hi (ai.le_refl _) (du.refl _) h1 hM hF b k cs
 exact⟨e,a',w',hq, .of_steps (.one step_loop) harr⟩
end
end Go.Proofs.YtnjggjhkfncnlaaGreatDoor
namespace Go.Proofs.YtnjggjhkfncnlaaGreatDoor
section
theorem aL.by_ {D:List Nat} {fr fr':List AV} {M:aj} (lm:cT) (L:List (Nat×cn)) (n:Nat) (hs:(i7 lm L&&i8 L lm&&rg lm D)=true) (hm:cU lm n M L) (hf:ij lm n fr fr'):aL D fr M fr' (aj.ofL L):=by
 rw[oy]
 intro S F ρ0 ρ a w h0 h1 hM hF
 rw[Bool.and_eq_true,Bool.and_eq_true] at hs
 refine⟨S,bJ lm ρ,ai.le_refl _,fun ℓ b hb=>?_,hM.relabel hm hs.1.1 hs.1.2,(km n).2 fr fr' _ hf hF.1,hF.2⟩
 have:=List.all_eq_true.1 hs.2 ℓ (h0 ℓ b hb)
 unfold bJ
 cases hf:aU lm ℓ with
 |none=>rw[hf] at this;cases this
 |some x=>
  rw[hf] at this
  cases x with
  |old m=>
   simp only at this⊢
   rw[Nat.eq_of_beq_eq_true this]
   exact h1 ℓ b hb
  |nil _=>cases this
end
def Ev:Nat->(List AV->Prop)->Prop
 |0,k=>k []
 |n+1,k=>Ev n fun l=>k (.tup []::l)
theorem xX:∀(n:Nat) (k:List AV->Prop),Ev n k=k (List.replicate n (.tup []))
 |0,k=>rfl
 |n+1,k=>by rw[Ev,xX n];rfl
def uI:List AV->Nat->(List AV->Prop)->Prop
 |[],n,k=>Ev n k
 |u::us,n,k=>uI us n fun l=>k (u::l)
theorem eV:∀(us:List AV) (n:Nat) (k:List AV->Prop),uI us n k=k (us++List.replicate n (.tup []))
 |[],n,k=>by rw[uI,xX];rfl
 |u::us,n,k=>by rw[uI,eV us n];rfl
def nk (tmps:Array Value):ResultVar->Sem Value
 | .tmp t=>pure (tmps.getD t undef)
 | .cell x t=>do loadVar t (<-asAddr (tmps.getD x undef))
def mo (tt:TT) (fr:List AV) (M:aj):List ResultVar->(List AV->Prop)->Prop
 |[],k=>k []
 |r::rs,k=>match r with
  | .tmp t=>sC fr t fun u=>mo tt fr M rs fun us=>k (u::us)
  | .cell a t=>sC fr a fun p=>fQ (fp tt t M p) fun u=>mo tt fr M rs fun us=>k (u::us)
def gG:List AV->AV
 |[u]=>u
 |us=> .tup us
def ja:List AV->aj->(List AV->aj->Prop)->Prop
 |[],M,K=>K [] M
 |u::us,M,K=>match u with
  | .agg cs=>dA cs M fun cs' M'=>ja us M' fun us' M''=>K (.agg cs'::us') M''
  | .ptr ℓ 0=>match M ℓ with
   |some (.box _ cells)=>match cd cells with
    |true=>ja us (M.set ℓ .dead) fun us' M''=>K (.pd cells::us') M''
    |false=>ja us M fun us' M''=>K (.ptr ℓ 0::us') M''
   |_=>ja us M fun us' M''=>K (.ptr ℓ 0::us') M''
  |u=>dA [u] M fun x M'=>ja us M' fun us' M''=>K (x++us') M''
section
variable {S F:ai} {ρ:aD} {M:aj} {w:World} {P:Program} {tt:TT}
theorem mq (hT:bh P tt=true) (hM:aF S F ρ M w) {a:Act} {fr:List AV} (hF:eZ S ρ a fr):∀(rs:List ResultVar) (k:List AV->Prop),mo tt fr M rs k->
  ∃vs us,k us/\bj S ρ vs us/\vs.length=rs.length/\(rs.mapM (nk a.tmps)).run P w= .ok vs w
 |[],k,h=>⟨[],[],h,bj.nil _ _,rfl,by simp⟩
 |r::rs,k,h=>by
  cases r with
  |tmp t=>
   simp only[mo,kU] at h
   obtain⟨vs,us,hk,hv,hl,hr⟩:=mq hT hM hF rs _ h
   exact⟨a.tmps.getD t undef::vs,_,hk,bj.cons (hF.eval (.tmp t)) hv,by simp[hl],by simp[List.mapM_cons,hr,nk]⟩
  |cell x t=>
   simp only[mo,kU] at h
   have hx:=hF.eval (.tmp x)
   obtain⟨v,u,he,hv,h⟩:=AC h (q8 (t:=t) hT hM hx).next
   obtain⟨vs,us,hk,hvs,hl,hr⟩:=mq hT hM hF rs _ h
   have he':(Instr.loadAt t (a.eval (.tmp x))).run P w= .ok v w:=by
    simp only[Sem.run_bind] at he
    cases hq:(Instr.loadAt t (a.eval (.tmp x))).run P w with
    |ok y w'=>rw[hq] at he;simp at he;rw[he.1,he.2]
    |halt y w'=>rw[hq] at he;simp at he
   have he2:(nk a.tmps (.cell x t)).run P w= .ok v w:=by
    unfold nk
    have:a.eval (.tmp x)=a.tmps.getD x undef:=rfl
    rw[this] at he'
    show(do loadVar t (<-asAddr (a.tmps.getD x undef)):Sem Value).run P w= .ok v w
    generalize a.tmps.getD x undef=y at he'⊢
    unfold Instr.loadAt Instr.sureAddr at he'
    cases y with
    |pointer ad=>
     cases ad with
     |some ad=>simpa[asAddr] using he'
     |none=>simp at he'
    |_=>simp at he'
   exact⟨v::vs,_,hk,bj.cons hv hvs,by simp[hl],by simp[List.mapM_cons,he2,hr]⟩
theorem gZ:∀(us:List AV) (vs:List Value) (S:ai) (M:aj) (K:List AV->aj->Prop),ja us M K->bj S ρ vs us->aF S F ρ M w->
  ∃us' M' S',K us' M'/\S.le S'/\bj S' ρ vs us'/\aF S' F ρ M' w
 |[],vs,S,M,K,h,hv,hM=>⟨[],M,S,h,ai.le_refl _,hv,hM⟩
 |u::us,vs,S,M,K,h,hv,hM=>by
  obtain⟨x,xs,rfl,hx,hxs⟩:=hv.cons_inv
  simp only[ja] at h
  split at h
  ·rename_i cs
   obtain⟨ys,rfl,hys⟩:=hx.agg_inv
   obtain⟨cs',M1,S1,h,hle,hc,hM1,_⟩:=gj _ _ _ _ _ h hys hM
   obtain⟨us',M',S',hK,hle',hvs',hM'⟩:=gZ us xs S1 M1 _ h (hxs.mono hle (aD.le_refl _)) hM1
   refine⟨_,M',S',hK,ai.le_trans hle hle',bj.cons ?_ hvs',hM'⟩
   have:=RV.agg_mk (hc.mono hle' (aD.le_refl _))
   simpa using this
  ·split at h
   ·rename_i hl
    split at h
    ·rename_i hp
     obtain⟨S1,b,hle,hb,hM1,hr⟩:=hM.leakBox hl (fun j u v hu hv=>by
      have ho:l6 u=true:=by
       have:∀(l:List AV),cd l=true->∀u∈l,l6 u=true:=by
        intro l
        induction l with
        |nil=>intro _ u hu;cases hu
        |cons a l ih=>
         intro hp u hu
         simp only[cd] at hp
         split at hp
         ·rename_i ha
          rcases List.mem_cons.1 hu with rfl|hu
          ·exact ha
          ·exact ih hp u hu
         ·simp at hp
       exact this _ hp u (List.mem_of_getElem? hu)
      exact(uc ho hv).1)
     obtain⟨us',M',S',hK,hle',hvs',hM'⟩:=gZ us xs S1 _ _ h (hxs.mono hle (aD.le_refl _)) hM1
     obtain⟨b',hb',rfl⟩:=hx.ptr_inv
     rw[hb] at hb';cases hb'
     exact⟨_,M',S',hK,ai.le_trans hle hle',bj.cons (.p (hr.mono hle')) hvs',hM'⟩
    ·obtain⟨us',M',S',hK,hle',hvs',hM'⟩:=gZ us xs S M _ h hxs hM
     exact⟨_,M',S',hK,hle',bj.cons (hx.mono hle' (aD.le_refl _)) hvs',hM'⟩
   ·obtain⟨us',M',S',hK,hle',hvs',hM'⟩:=gZ us xs S M _ h hxs hM
    exact⟨_,M',S',hK,hle',bj.cons (hx.mono hle' (aD.le_refl _)) hvs',hM'⟩
  ·obtain⟨y,M1,S1,h,hle,hc,hM1,_⟩:=gj _ [x] _ _ _ h (bj.cons hx (bj.nil _ _)) hM
   obtain⟨us',M',S',hK,hle',hvs',hM'⟩:=gZ us xs S1 M1 _ h (hxs.mono hle (aD.le_refl _)) hM1
   exact⟨_,M',S',hK,ai.le_trans hle hle',(hc.mono hle' (aD.le_refl _)).append hvs',hM'⟩
theorem pz {vs:List Value} {us:List AV} (hv:bj S ρ vs us):RV S ρ (if h:vs.length=1 then vs[0] else .tuple vs.toArray) (gG us):=by
 cases us with
 |nil=>rw[hv.nil_inv];simpa[gG] using RV.tup_mk (bj.nil S ρ)
 |cons u us=>
  obtain⟨x,xs,rfl,hx,hxs⟩:=hv.cons_inv
  cases us with
  |nil=>have:=hxs.nil_inv;subst this;simpa[gG] using hx
  |cons u2 us=>
   obtain⟨x2,xs2,rfl,_,_⟩:=hxs.cons_inv
   simpa[gG] using RV.tup_mk hv
def GM (tt:TT) (rs:List ResultVar) (R:AV->aj->Prop):fA:=fun e fr M=>match e with
 | .normal=>mo tt fr M rs fun us=>R (gG us) M
 | .ret=>mo tt fr M rs fun us=>R (gG us) M
 | .exit _=>False
def IK (tt:TT) (rs:List ResultVar) (R:AV->aj->Prop):fA:=fun e fr M=>match e with
 | .normal=>mo tt fr M rs fun us=>ja us M fun us' M'=>R (gG us') M'
 | .ret=>mo tt fr M rs fun us=>ja us M fun us' M'=>R (gG us') M'
 | .exit _=>False
def IL (tt:TT) (rs:List ResultVar) (R:AV->Prop):fA:=fun e fr M=>match e with
 | .normal=>mo tt fr M rs fun us=>ja us M fun us' _=>R (gG us')/\cJ 5 (gG us')=true
 | .ret=>mo tt fr M rs fun us=>ja us M fun us' _=>R (gG us')/\cJ 5 (gG us')=true
 | .exit _=>False
theorem ku {fn:Func} {tmps:Array Value} {vs:List Value} (h:(fn.results.toList.mapM (nk tmps)).run P w= .ok vs w):(results fn tmps).run P w= .ok (if h:vs.length=1 then vs[0] else .tuple vs.toArray) w:=by
 have e:results fn tmps=(do
   let vs <-fn.results.mapM (nk tmps)
   pure (if h:vs.size=1 then vs[0] else .tuple vs)):=by
  unfold results
  congr 2
 rw[e,Array.mapM_eq_mapM_toList]
 simp only[Sem.run_bind,Sem.run_map,h,Result.andThen_ok,Sem.run_pure]
 congr 1
theorem nl {f:FuncId} {fn:Func} {c:Code} {args:List AV} {D:List Nat} (hf:P.funcs[f]? =some fn) (hb:fn.body=some c) {Q:fA}
  (hw:uI args (fn.ntmps-args.length) fun fr=>aH P D c fr M Q) {ρ0:aD} (hD:py ρ0 D) {vs:List Value} (hM:aF S F ρ0 M w) (hv:bj S ρ0 vs args) {R:Ending->World->Prop}
  (hR:∀(e:J5) a' w',cR S F ρ0 w (Q e) a' w'->a'.defers=[]->(∀i,e≠ .exit i)/\∃v,(results fn a'.tmps).run P w'= .ok v w'/\R (.returned v) w'):Calls P f vs.toArray w R:=by
 rw[eV] at hw
 rw[cY] at hw
 refine calls_of_wp hf hb ?_
 have hlen:=hv.1
 have hF:eZ S ρ0 {tmps:=vs.toArray++Array.replicate (fn.ntmps-vs.toArray.size) undef,defers:=[]} (args++List.replicate (fn.ntmps-args.length) (.tup [])):=by
  refine⟨?_,rfl⟩
  have e:(vs.toArray++Array.replicate (fn.ntmps-vs.toArray.size) undef).toList=vs++List.replicate (fn.ntmps-args.length) undef:=by simp[hlen]
  rw[e]
  refine hv.append ⟨by simp,fun i u hu=>?_⟩
  have hi:=(List.getElem?_eq_some_iff.1 hu).1
  simp only[List.length_replicate] at hi
  have hu':u= .tup []:=by
   rw[List.getElem?_replicate] at hu
   simp[hi] at hu
   exact hu.symm
  subst hu'
  exact⟨undef,by simp[hi],RV.tup_mk (bj.nil _ _)⟩
 refine wp_mono (hw S F ρ0 ρ0 _ w hD (aD.le_refl _) hM hF) ?_
 rintro e a' w' ⟨x,hx,ha⟩
 have hd:a'.defers=[]:=by obtain⟨_,_,_,_,_,_,_,_,hF',_⟩:=ha;exact hF'.2
 obtain⟨h1,v,h2,h3⟩:=hR x a' w' ha hd
 cases e with
 |normal=>exact⟨hd,v,h2,h3⟩
 |ret=>exact⟨hd,v,h2,h3⟩
 |exit i=>cases hx;exact absurd rfl (h1 i)
 |goto l=>cases hx
 |panic l=>cases hx
 |outgrown=>cases hx
theorem pA {f:FuncId} {fn:Func} {c:Code} (hf:P.funcs[f]? =some fn) (hb:fn.body=some c) (hn:(fn.name== "runtime.NumGoroutine")=false):nY P f:=⟨fn,hf,hn,by rw[hb];rfl⟩
theorem ak.intro (hT:bh P tt=true) (hm:P.follows .mixedOrders=true) {f:FuncId} {fn:Func} {c:Code} {args:List AV} (L:List (Nat×cn)) {R:AV->aj->Prop} (hf:P.funcs[f]? =some fn) (hb:fn.body=some c) (hn:(fn.name== "runtime.NumGoroutine")=false)
  (h:uI args (fn.ntmps-args.length) fun fr=>cy P tt (L.map (·.1)) c fr (aj.ofL L) (GM tt fn.results.toList R)):ak P f args (aj.ofL L) R:=by
 rw[cr]
 refine⟨pA hf hb hn,fun S F ρ vs w hM hv=>?_⟩
 have hD:py ρ (L.map (·.1)):=fun ℓ b hb=>by
  have:=hM.dom ℓ b hb
  cases hB:aj.ofL L ℓ with
  |none=>exact absurd hB this
  |some B=>exact List.mem_map_of_mem (f:=(·.1)) (iw hB)
 refine nl (D:=L.map (·.1)) (Q:=GM tt fn.results.toList R) hf hb ?_ hD hM hv fun e a' w' ha hd=>?_
 ·rw[eV] at h⊢;exact gY hT hm c _ _ _ h
 ·obtain⟨fr,M',S',ρ',hk,h1,h2,h3,h4,h5⟩:=ha
  have fin:mo tt fr M' fn.results.toList (fun us=>R (gG us) M')->∃v,(results fn a'.tmps).run P w'= .ok v w'/\mc S F ρ w R (.returned v) w':=by
   intro hk
   obtain⟨vs',us,hK,hvs,hl,hr⟩:=mq hT h3 h4 _ _ hk
   exact⟨_,ku hr,_,_,M',S',ρ',rfl,hK,h1,h2,h3,pz hvs,h5⟩
  cases e with
  |normal=>exact⟨by simp,fin hk⟩
  |ret=>exact⟨by simp,fin hk⟩
  |exit i=>exact hk.elim
theorem ak.introL (hT:bh P tt=true) (hm:P.follows .mixedOrders=true) {f:FuncId} {fn:Func} {c:Code} {args:List AV} (L:List (Nat×cn)) {R:AV->aj->Prop} (hf:P.funcs[f]? =some fn) (hb:fn.body=some c) (hn:(fn.name== "runtime.NumGoroutine")=false)
  (h:uI args (fn.ntmps-args.length) fun fr=>cy P tt (L.map (·.1)) c fr (aj.ofL L) (IK tt fn.results.toList R)):ak P f args (aj.ofL L) R:=by
 rw[cr]
 refine⟨pA hf hb hn,fun S F ρ vs w hM hv=>?_⟩
 have hD:py ρ (L.map (·.1)):=fun ℓ b hb=>by
  have:=hM.dom ℓ b hb
  cases hB:aj.ofL L ℓ with
  |none=>exact absurd hB this
  |some B=>exact List.mem_map_of_mem (f:=(·.1)) (iw hB)
 refine nl (D:=L.map (·.1)) (Q:=IK tt fn.results.toList R) hf hb ?_ hD hM hv fun e a' w' ha hd=>?_
 ·rw[eV] at h⊢;exact gY hT hm c _ _ _ h
 ·obtain⟨fr,M',S',ρ',hk,h1,h2,h3,h4,h5⟩:=ha
  have fin:(mo tt fr M' fn.results.toList fun us=>ja us M' fun us' M''=>R (gG us') M'')->∃v,(results fn a'.tmps).run P w'= .ok v w'/\mc S F ρ w R (.returned v) w':=by
   intro hk
   obtain⟨vs',us,hK,hvs,hl,hr⟩:=mq hT h3 h4 _ _ hk
   obtain⟨us',M2,S2,hR,hle,hvs2,hM2⟩:=gZ _ _ _ _ _ hK hvs h3
   exact⟨_,ku hr,_,_,M2,S2,ρ',rfl,hR,ai.le_trans h1 hle,h2,hM2,pz hvs2,h5⟩
  cases e with
  |normal=>exact⟨by simp,fin hk⟩
  |ret=>exact⟨by simp,fin hk⟩
  |exit i=>exact hk.elim
theorem ab.intro (hT:bh P tt=true) (hm:P.follows .mixedOrders=true) {f:FuncId} {fn:Func} {c:Code} {args:List AV} {R:AV->Prop} (hf:P.funcs[f]? =some fn) (hb:fn.body=some c) (hn:(fn.name== "runtime.NumGoroutine")=false)
  (h:uI args (fn.ntmps-args.length) fun fr=>cy P tt [] c fr aj.none (IL tt fn.results.toList R)):ab P f args R:=by
 rw[dj]
 refine⟨pA hf hb hn,fun S F vs w hg hs hfr hd hv=>?_⟩
 refine nl (M:=aj.none) (ρ0:=fun _=>none) (D:=[]) (Q:=IL tt fn.results.toList R) hf hb ?_ (fun ℓ b hb=>by cases hb) ⟨hs,hfr,hd,by simp,by simp[aj.none],by simp,hg⟩ (hv.rv _) fun e a' w' ha hd'=>?_
 ·rw[eV] at h⊢;exact gY hT hm c _ _ _ h
 ·obtain⟨fr,M',S',ρ',hk,h1,h2,h3,h4,h5⟩:=ha
  have fin:(mo tt fr M' fn.results.toList fun us=>ja us M' fun us' _=>R (gG us')/\cJ 5 (gG us')=true)->∃v,(results fn a'.tmps).run P w'= .ok v w'/\pe S F w R (.returned v) w':=by
   intro hk
   obtain⟨vs',us,hK,hvs,hl,hr⟩:=mq hT h3 h4 _ _ hk
   obtain⟨us',M2,S2,⟨hR,hp⟩,hle,hvs2,hM2⟩:=gZ _ _ _ _ _ hK hvs h3
   exact⟨_,ku hr,_,_,S2,rfl,hR,ai.le_trans h1 hle,hM2.sw,hM2.fw,hM2.sf,ki 5 hp (pz hvs2),h5⟩
  cases e with
  |normal=>exact⟨by simp,fin hk⟩
  |ret=>exact⟨by simp,fin hk⟩
  |exit i=>exact hk.elim
end
end Go.Proofs.YtnjggjhkfncnlaaGreatDoor
namespace Go.Proofs.YtnjggjhkfncnlaaGreatDoor
section
variable {M:aj} {P:Program}
theorem zm (ℓ:Nat) (B:cn) (M:aj):gk [(ℓ,B)] M=M.set ℓ B:=by
 funext x
 simp only[gk,aj.ofL,aj.set]
 by_cases h:x=ℓ
 ·subst h;simp
 ·have h1:Nat.beq ℓ x=false:=by rw[Bool.eq_false_iff];intro hh;exact h (Nat.eq_of_beq_eq_true hh).symm
  have h2:Nat.beq x ℓ=false:=by rw[Bool.eq_false_iff];intro hh;exact h (Nat.eq_of_beq_eq_true hh)
  simp[h1,h2]
def newRow (n sz:Nat) (B:cn):AV->aj->Prop:=fun u M=>∃ℓ0,u= .row ℓ0 n sz/\md [] 1 (M ℓ0) B
theorem ak.fresh {f:FuncId} {args:List AV} {K:AV->aj->Prop} {n sz:Nat} {t:TypeId} {α:Type} {d:α} {enc:α->List AV} {l:List α} (ℓ:Nat)
  (h:ak P f args (aj.ofL []) (fun u M=>∃ℓ0,u= .row ℓ0 n sz/\M ℓ0=some (.row t d enc l))) (hf:(M ℓ).isNone=true) (ha:ij [] 400 args args)
  (hk:K (.row ℓ n sz) (M.set ℓ (.row t d enc l))):ak P f args M K:=by
 refine ak.call [] [] 400 rfl trivial ha h ?_
 rintro u M' ⟨ℓ0,rfl,e⟩
 refine⟨[(ℓ, .old ℓ0)],[(ℓ, .row t d enc l)], .row ℓ n sz,?_,?_,?_,?_⟩
 ·simp[i7,i8,js,me,uq,nc,aj.ofL,hf]
 ·simp[cU,aU,md,e]
 ·simp[jr,aU]
 ·rw[zm];exact hk
theorem nm {f:FuncId} {args:List AV} {K:AV->aj->Prop} {R:AV->aj->Prop} (n:Nat) (lb:cT) (L2:List (Nat×cn)) (u':AV) (h:ak P f args (aj.ofL []) R) (ha:ij [] n args args)
  (hb:(i7 lb L2&&i8 L2 lb&&uq [] lb&&nc [] lb M)=true) (hf:L2.all (fun p=>(M p.1).isNone)=true) (hr:∀u M',R u M'->cU lb n M' L2/\jr lb n u u') (hk:K u' (gk L2 M)):jS P f args M K:=
 ⟨R,n,lb,L2,u',h,ha,hb,hf,hr,hk⟩
theorem ak.news {f:FuncId} {args:List AV} {K:AV->aj->Prop} {R:AV->aj->Prop} (n:Nat) (lb:cT) (L2:List (Nat×cn)) (u':AV) (h:ak P f args (aj.ofL []) R) (ha:ij [] n args args)
  (hb:(i7 lb L2&&i8 L2 lb&&uq [] lb&&nc [] lb M)=true) (hr:∀u M',R u M'->cU lb n M' L2/\jr lb n u u') (hk:K u' (gk L2 M)):ak P f args M K:=
 ak.call [] [] n rfl trivial ha h fun u M' hR=>⟨lb,L2,u',hb,(hr u M' hR).1,(hr u M' hR).2,hk⟩
end
end Go.Proofs.YtnjggjhkfncnlaaGreatDoor
namespace Go.Proofs.YtnjggjhkfncnlaaGreatDoor
def sL:List Oper->List Nat->List Nat
 |[],r=>r
 |o::l,r=>match o.dst with
  |some d=>d::sL l r
  |none=>sL l r
def lx:Code->List Nat->List Nat
 | .region _ ops _,r=>sL ops.toList r
 | .seq a b,r=>lx a (lx b r)
 | .cond _ a b,r=>lx a (lx b r)
 | .block _ a,r=>lx a r
 | .loop a,r=>lx a r
 | .rangeFunc _ ps a b,r=>ps.toList++lx a (lx b r)
 | .scope a,r=>lx a r
 |_,r=>r
def sM:List Nat->(List Nat->Prop)->Prop
 |[],k=>k []
 |n::l,k=>sM l fun l'=>k (n::l')
theorem rA:∀(l:List Nat) (k:List Nat->Prop),sM l k=k l
 |[],_=>rfl
 |n::l,k=>by rw[sM,rA l]
def IM:List Nat->Nat->Bool
 |[],_=>false
 |n::l,i=>match Nat.beq n i with|true=>true|false=>IM l i
def rB:List AV->Nat->List Nat->(List AV->Prop)->Prop
 |[],_,_,k=>k []
 |u::fr,i,ms,k=>match IM ms i with
  |true=>rB fr (Nat.succ i) ms fun r=>k (.top::r)
  |false=>match u with
   | .tup _=>rB fr (Nat.succ i) ms fun r=>k (.top::r)
   |u=>rB fr (Nat.succ i) ms fun r=>k (u::r)
theorem mr:∀(fr:List AV) (i:Nat) (ms:List Nat) (k:List AV->Prop),rB fr i ms k->∃fr0,k fr0
 |[],_,_,k,h=>⟨[],h⟩
 |u::fr,i,ms,k,h=>by
  unfold rB at h
  split at h
  ·obtain⟨r,hr⟩:=mr fr _ _ _ h;exact⟨_,hr⟩
  ·split at h
   ·obtain⟨r,hr⟩:=mr fr _ _ _ h;exact⟨_,hr⟩
   ·obtain⟨r,hr⟩:=mr fr _ _ _ h;exact⟨_,hr⟩
def uJ:List AV->List (Nat×AV)->List AV
 |fr,[]=>fr
 |fr,(i,u)::us=>uJ (fr.set i u) us
def xY:List AV->List (Nat×AV)->(List AV->Prop)->Prop
 |fr,[],k=>k fr
 |fr,(i,u)::us,k=>lg fr i u fun fr'=>xY fr' us k
theorem uK:∀(us:List (Nat×AV)) (fr:List AV) (k:List AV->Prop),xY fr us k=k (uJ fr us)
 |[],_,_=>rfl
 |(i,u)::us,fr,k=>by rw[xY,sD,uK us];rfl
def nn (L:List (Nat×cn)):cT:=L.map fun p=>(p.1, .old p.1)
theorem aL.id_ {D:List Nat} {fr fr':List AV} {M:aj} {L:List (Nat×cn)} (n:Nat) (hs:(i7 (nn L) L&&i8 L (nn L)&&rg (nn L) D)=true) (hm:cU (nn L) n M L) (hf:ij (nn L) n fr fr'):aL D fr M fr' (aj.ofL L):=
 aL.by_ (nn L) L n hs hm hf
theorem sI {D:List Nat} {fr fr':List AV} {M:aj} {L:List (Nat×cn)} (hm:cU (nn L) 400 M L:=by repeat' (first|exact True.intro|exact rfl|(refine And.intro ?_ ?_)|((conv=>whnf);omega)|((conv=>whnf);simp only[List.length_append,List.length_cons,List.length_nil];done)|((conv=>whnf);simp only[List.length_append,List.length_cons,List.length_nil];omega))) (hf:ij (nn L) 400 fr fr':=by repeat' (first|exact True.intro|exact rfl|(refine And.intro ?_ ?_)|((conv=>whnf);omega)|((conv=>whnf);simp only[List.length_append,List.length_cons,List.length_nil];done)|((conv=>whnf);simp only[List.length_append,List.length_cons,List.length_nil];omega))) (hs:(i7 (nn L) L&&i8 L (nn L)&&rg (nn L) D)=true:=by exact rfl):aL D fr M fr' (aj.ofL L):=aL.id_ 400 hs hm hf
theorem ak.norm {P:Program} {f:FuncId} {args:List AV} {L0:List (Nat×cn)} {R R':AV->aj->Prop} (n:Nat) (h:ak P f args (aj.ofL L0) R)
  (hk:∀u M',R u M'->∃(L:List (Nat×cn)) (u':AV),(i7 (nn L) L&&i8 L (nn L)&&rg (nn L) (L0.map (·.1)))=true/\cU (nn L) n M' L/\jr (nn L) n u u'/\R' u' (aj.ofL L)):ak P f args (aj.ofL L0) R':=by
 rw[cr] at h⊢
 refine⟨h.1,fun S F ρ vs w hM hv=>(h.2 S F ρ vs w hM hv).mono ?_⟩
 rintro e w' ⟨v,u,M',S',ρ',rfl,hR,hle,hρ,hM',hr,hw⟩
 obtain⟨L,u',hb,hm,ha,hR'⟩:=hk u M' hR
 simp only[Bool.and_eq_true] at hb
 obtain⟨⟨hb1,hb2⟩,hb3⟩:=hb
 refine⟨v,u',_,S',bJ (nn L) ρ',rfl,hR',hle,fun ℓ b hb=>?_,hM'.relabel hm hb1 hb2,(km n).1 u u' v ha hr,hw⟩
 have hd:=hM.dom ℓ b hb
 obtain⟨B,hB⟩:∃B,aj.ofL L0 ℓ=some B:=by
  cases h:aj.ofL L0 ℓ with
  |none=>exact absurd h hd
  |some B=>exact⟨B,rfl⟩
 have hmem:=List.mem_map_of_mem (f:=(·.1)) (iw hB)
 have:=List.all_eq_true.1 hb3 _ hmem
 simp only at this
 split at this
 ·rename_i m hm'
  have:=Nat.eq_of_beq_eq_true this
  subst this
  show bJ (nn L) ρ' _=_
  unfold bJ
  rw[hm']
  exact hρ _ _ hb
 ·cases this
theorem ak.renorm {P:Program} {f:FuncId} {args:List AV} {L0:List (Nat×cn)} {R R':AV->aj->Prop} (n:Nat) (h:ak P f args (aj.ofL L0) R)
  (hk:∀u M',R u M'->∃(lm:cT) (L:List (Nat×cn)) (u':AV),(i7 lm L&&i8 L lm&&rg lm (L0.map (·.1)))=true/\cU lm n M' L/\jr lm n u u'/\R' u' (aj.ofL L)):ak P f args (aj.ofL L0) R':=by
 rw[cr] at h⊢
 refine⟨h.1,fun S F ρ vs w hM hv=>(h.2 S F ρ vs w hM hv).mono ?_⟩
 rintro e w' ⟨v,u,M',S',ρ',rfl,hR,hle,hρ,hM',hr,hw⟩
 obtain⟨lm,L,u',hb,hm,ha,hR'⟩:=hk u M' hR
 simp only[Bool.and_eq_true] at hb
 obtain⟨⟨hb1,hb2⟩,hb3⟩:=hb
 refine⟨v,u',_,S',bJ lm ρ',rfl,hR',hle,fun ℓ b hb=>?_,hM'.relabel hm hb1 hb2,(km n).1 u u' v ha hr,hw⟩
 have hd:=hM.dom ℓ b hb
 obtain⟨B,hB⟩:∃B,aj.ofL L0 ℓ=some B:=by
  cases h:aj.ofL L0 ℓ with
  |none=>exact absurd h hd
  |some B=>exact⟨B,rfl⟩
 have hmem:=List.mem_map_of_mem (f:=(·.1)) (iw hB)
 have:=List.all_eq_true.1 hb3 _ hmem
 simp only at this
 split at this
 ·rename_i m hm'
  have:=Nat.eq_of_beq_eq_true this
  subst this
  show bJ lm ρ' _=_
  unfold bJ
  rw[hm']
  exact hρ _ _ hb
 ·cases this
section
variable {P:Program} {tt:TT} {D:List Nat}
theorem aH.loopF (hT:bh P tt=true) (hm:P.follows .mixedOrders=true) {c:Code} {fr:List AV} {M:aj} {Q:fA} {X:Type _} (I:X->Prop) (us:X->List (Nat×AV)) (L:X->List (Nat×cn)) (μ:X->Nat) (x0:X) (hi:I x0)
  (h:sM (lx c []) fun ms=>rB fr 0 ms fun fr0=>aL D fr M (uJ fr0 (us x0)) (aj.ofL (L x0))/\
   ∀x,I x->xY fr0 (us x) fun fr1=>cy P tt D c fr1 (aj.ofL (L x)) (uH D I (fun x=>uJ fr0 (us x)) (fun x=>aj.ofL (L x)) μ x Q)):aH P D (.loop c) fr M Q:=by
 rw[rA] at h
 obtain⟨fr0,h0,h⟩:=mr _ _ _ _ h
 refine aH.loop I (fun x=>uJ fr0 (us x)) (fun x=>aj.ofL (L x)) μ x0 hi h0 fun x hx=>?_
 have:=h x hx
 rw[uK] at this
 exact gY hT hm _ _ _ _ this
end
end Go.Proofs.YtnjggjhkfncnlaaGreatDoor
namespace Go.Proofs.YtnjggjhkfncnlaaGreatDoor
theorem ak.dcall {P:Program} {M:aj} {f:FuncId} {args:List AV} {p:Prop} {i:Decidable p} {K:AV->aj->Prop} {n:Nat} (h:ab P f args (fun u=>u= .bool (@decide p i))) (hp:args.all (cJ n)=true) (ht:p->K (.bool true) M) (hf:¬p->K (.bool false) M):ak P f args M K:=
 ak.of_pure (n:=n) h hp fun u hu=>by
  subst hu
  by_cases hh:p
  ·rw[decide_eq_true hh];exact ht hh
  ·rw[decide_eq_false hh];exact hf hh
theorem IP {P:Program} {f:FuncId} {args:List AV} {p:Prop} {i:Decidable p} {K:AV->Prop} (n:Nat) (h:ab P f args (fun u=>u= .bool (@decide p i))) (hp:args.all (cJ n)=true) (ht:p->K (.bool true)) (hf:¬p->K (.bool false)):pg P f args K:=
 A0 n h hp ⟨_,rfl⟩ fun u hu=>by
  subst hu
  by_cases hh:p
  ·rw[decide_eq_true hh];exact ht hh
  ·rw[decide_eq_false hh];exact hf hh
theorem az {p:Prop} {i:Decidable p} (h:p):AV.bool true= .bool (@decide p i):=by rw[decide_eq_true h]
theorem aq {p:Prop} {i:Decidable p} (h:¬p):AV.bool false= .bool (@decide p i):=by rw[decide_eq_false h]
def wE (M:aj):AV->AV
 | .row ℓ n sz=>match M ℓ with
  |some (.row _ d enc l)=> .sl d enc l
  |some (.gone d enc l)=> .sl d enc l
  |_=> .row ℓ n sz
 | .ptr ℓ o=>match M ℓ with
  |some (.box _ cells)=>match cd cells with
   |true=> .pd (cells.drop o)
   |false=> .ptr ℓ o
  |_=> .ptr ℓ o
 |u=>u
def Ew (M:aj):AV->AV
 | .agg cs=> .agg (cs.map (wE M))
 | .fn f cs=> .fn f (cs.map (wE M))
 |u=>wE M u
def F0:cn->Bool
 | .row _ _ _ _=>true
 | .box _ _=>true
 | .hdr _ _ _=>true
 |_=>false
def uL:AV->Bool
 | .int _ _| .bool _| .str _| .nilsl| .top=>true
 |_=>false
def Bh:AV->Bool
 | .tup cs=>cs.all uL
 | .agg cs=>cs.all uL
 |u=>uL u
section
variable {P:Program} {S F:ai} {ρ:aD} {M:aj} {w:World}
def mt (ρ:aD) (M:aj) (k:Nat):Prop:=∃ℓ B b,M ℓ=some B/\ρ ℓ=some b/\F0 B=true/\B.live b/\b.blk=k
noncomputable def fl (S:ai) (ρ:aD) (M:aj) (w:World):ai:=fun k=>open Classical in if mt ρ M k then w.heap[k]? else S k
theorem np (hM:aF S F ρ M w) {k:Nat} (h:mt ρ M k):S k=none/\F k=none/\k<w.heap.size:=by
 obtain⟨ℓ,B,b,h1,h2,_,h3,rfl⟩:=h
 obtain⟨b',hb',hr⟩:=hM.blk _ _ h1
 rw[h2] at hb';cases hb'
 exact⟨(hr.off h3).1,(hr.off h3).2,hr.lt h3⟩
theorem uM (hM:aF S F ρ M w):S.le (fl S ρ M w):=by
 intro k o hk
 unfold fl
 split
 ·rename_i h
  rw[(np hM h).1] at hk;cases hk
 ·exact hk
theorem Bi (hM:aF S F ρ M w):(fl S ρ M w).inW w:=by
 intro k o hk
 unfold fl at hk
 split at hk
 ·exact hk
 ·exact hM.sw k o hk
theorem sN (hM:aF S F ρ M w) {v:Value} {u:AV} (h:RV S ρ v u):RV (fl S ρ M w) ρ v (wE M u):=by
 have hle:=uM (S:=S) (F:=F) hM
 unfold wE
 split
 ·rename_i ℓ n sz
  split
  ·rename_i t α d enc l hl
   obtain⟨b,hb,hn,hs,hz,rfl⟩:=h.row_inv
   obtain⟨b',hb',hlen,hszs,hcase⟩:=hM.blk _ _ hl
   rw[hb] at hb';cases hb'
   rcases hcase with ⟨hnil,rfl,hcap⟩|⟨hnil,hcap,vs,hheap,hsize,hcell,hS,hF⟩
   ·have e:b.hdr= .slice none 0 0:=by simp only[eQ.hdr,hnil,if_true,hcap];simp at hlen;rw[hlen]
    rw[e]
    exact .p (.sl d enc [] none 0 1 (fun _ _=> .int .i64 0) (by simp) (by simp) (by simp) (fun i j hi=>by simp at hi) (by simp) (fun i a j u hi=>by simp at hi))
   ·have e:b.hdr= .slice (some ⟨b.blk,0,none⟩) l.length b.cap:=by simp only[eQ.hdr,hnil,hlen];rfl
    rw[e]
    have hl1:fl S ρ M w b.blk=some (.cells vs t (0,0)):=by
     unfold fl
     rw[if_pos ⟨ℓ,_,b,hl,hb,rfl,hnil,rfl⟩]
     exact hheap
    refine .p (.sl d enc l (some ⟨b.blk,0,none⟩) b.cap b.sz (fun i j=>vs.getD (i*b.sz+j) undef) hcap (fun a ha=>(hszs a ha).2) (fun a ha=>(hszs a ha).1) (fun i j hi hj=>⟨_,rfl,?_⟩) (by simp) (fun i a j u hi hu=>?_))
    ·rw[Addr.add_mk]
     have:i*b.sz+j<vs.size:=by
      rw[hsize]
      have:(i+1)*b.sz<=b.cap*b.sz:=Nat.mul_le_mul_right _ (by omega)
      rw[Nat.add_mul] at this
      omega
     unfold ai.cell
     simp only[hl1]
     simp[this]
    ·obtain⟨v,hv,hvr⟩:=hcell i a j u hi hu
     have:vs.getD (i*b.sz+j) undef=v:=by simp[hv]
     rw[this]
     exact hvr.mono hle
  ·rename_i α d enc l hl
   obtain⟨b,hb,hn,hs,hz,rfl⟩:=h.row_inv
   obtain⟨b',hb',hlen,hr⟩:=hM.blk _ _ hl
   rw[hb] at hb';cases hb'
   exact .p (hr.mono hle)
  ·exact h.mono hle (aD.le_refl _)
 ·rename_i ℓ o
  split
  ·rename_i t cells hl
   split
   ·rename_i hp
    obtain⟨b,hb,rfl⟩:=h.ptr_inv
    obtain⟨b',hb',vs,hheap,hvs,hS,hF⟩:=hM.blk _ _ hl
    rw[hb] at hb';cases hb'
    have hps:=(fb hp hvs).1
    have hl1:fl S ρ M w b.blk=some (.cells vs t (0,0)):=by
     unfold fl
     rw[if_pos ⟨ℓ,_,b,hl,hb,rfl,trivial,rfl⟩]
     exact hheap
    refine .p (.pd _ _ (fun j=>vs.getD (o+j) undef) (fun j hj=>?_) (fun j u hu=>?_))
    ·rw[Addr.add_mk]
     have hl2:=hps.1
     have:o+j<vs.size:=by simp at hj hl2;omega
     unfold ai.cell
     simp only[hl1]
     simp[this]
    ·rw[List.getElem?_drop] at hu
     obtain⟨v,hv,hvr⟩:=hps.2 _ u hu
     have hv':vs[o+j]? =some v:=by simpa using hv
     have:vs.getD (o+j) undef=v:=by simp[hv']
     rw[this]
     exact hvr.mono hle
   ·exact h.mono hle (aD.le_refl _)
  ·exact h.mono hle (aD.le_refl _)
 ·exact h.mono hle (aD.le_refl _)
theorem Ex (hM:aF S F ρ M w) {v:Value} {u:AV} (h:RV S ρ v u):RV (fl S ρ M w) ρ v (Ew M u):=by
 unfold Ew
 split
 ·rename_i cs
  obtain⟨vs,rfl,hr⟩:=h.agg_inv
  have:bj (fl S ρ M w) ρ vs.toList (cs.map (wE M)):=⟨by simpa using hr.1,fun i u hu=>by
   rw[List.getElem?_map] at hu
   obtain⟨u0,h0,rfl⟩:=Option.map_eq_some_iff.1 hu
   obtain⟨v,hv,hvr⟩:=hr.2 i u0 h0
   exact⟨v,hv,sN hM hvr⟩⟩
  have:=RV.agg_mk this
  simpa using this
 ·rename_i f cs
  obtain⟨vs,rfl,hr⟩:=h.fn_inv
  have:bj (fl S ρ M w) ρ vs.toList (cs.map (wE M)):=⟨by simpa using hr.1,fun i u hu=>by
   rw[List.getElem?_map] at hu
   obtain⟨u0,h0,rfl⟩:=Option.map_eq_some_iff.1 hu
   obtain⟨v,hv,hvr⟩:=hr.2 i u0 h0
   exact⟨v,hv,sN hM hvr⟩⟩
  have:=RV.fn_mk f this
  simpa using this
 ·exact sN hM h
theorem pB {S S':ai} {v:Value} {u:AV} (hf:uL u=true) (h:RP S v u):RP S' v u:=by
 cases h<;>first|(simp[uL] at hf;done)|constructor
theorem Bj {S S':ai} {v:Value} {u:AV} (hf:Bh u=true) (h:RP S v u):RP S' v u:=by
 cases u with
 |tup cs=>
  cases h with
  |tup _ vs hs vals he hv=>exact .tup cs vs hs vals he fun j u hu=>pB (List.all_eq_true.1 hf u (List.mem_of_getElem? hu)) (hv j u hu)
 |agg cs=>
  cases h with
  |agg _ vs hs vals he hv=>exact .agg cs vs hs vals he fun j u hu=>pB (List.all_eq_true.1 hf u (List.mem_of_getElem? hu)) (hv j u hu)
 |_=>exact pB hf h
noncomputable def n7 (S':ai) (ρ:aD) (M:aj):ai:=fun k=>open Classical in if mt ρ M k then none else S' k
theorem rC {S':ai} {k:Nat} (h:mt ρ M k):n7 S' ρ M k=none:=by unfold n7;rw[if_pos h]
theorem pC {S':ai} {k:Nat} (h:¬mt ρ M k):n7 S' ρ M k=S' k:=by unfold n7;rw[if_neg h]
theorem ak.borrowG {f:FuncId} {args args':List AV} {R:AV->Prop} {K:AV->aj->Prop} (h:ab P f args' R) (hconv:∀S F ρ w vs,aF S F ρ M w->bj S ρ vs args->ir (fl S ρ M w) vs args') (hfl:∀u,R u->Bh u=true) (hk:∀u,R u->K u M):ak P f args M K:=by
 rw[cr]
 rw[dj] at h
 refine⟨h.1,?_⟩
 intro S F ρ vs w hM hv
 have hle:=uM (S:=S) (F:=F) hM
 let own:Nat->Prop:=fun ℓ=>∃B,M ℓ=some B/\F0 B=true
 have hargs:=hconv S F ρ w vs hM hv
 have hsf:∀k,fl S ρ M w k=none\/fv F ρ M w own k=none:=by
  intro k
  by_cases hr:mt ρ M k
  ·right
   obtain⟨ℓ,B,b,h1,h2,h3,h4,rfl⟩:=hr
   unfold fv
   rw[if_neg]
   ·exact(np hM ⟨ℓ,B,b,h1,h2,h3,h4,rfl⟩).2.1
   ·rintro⟨y,C,c,g1,g2,g3,g4,g5⟩
    refine hM.inj y ℓ C _ c b g1 h1 g2 h2 g3 h4 (fun e=>?_) g4
    subst e
    exact g5 ⟨B,h1,h3⟩
  ·have e:fl S ρ M w k=S k:=by unfold fl;rw[if_neg hr]
   rw[e]
   exact pf hM k
 refine(h.2 (fl S ρ M w) (fv F ρ M w own) vs w (hM.gl.mono hle) (Bi hM) (na hM) hsf hargs).mono ?_
 rintro e w' ⟨v,u,S',rfl,hR,hle',hs,hf,hd,hr,hw⟩
 have hS2:S.le (n7 S' ρ M):=by
  intro k o hk
  by_cases h:mt ρ M k
  ·rw[(np hM h).1] at hk;cases hk
  ·rw[pC h];exact hle' k o (hle k o hk)
 have hS2':∀k o,n7 S' ρ M k=some o->S' k=some o:=by
  intro k o hk
  by_cases h:mt ρ M k
  ·rw[rC h] at hk;cases hk
  ·rw[pC h] at hk;exact hk
 refine⟨v,u,M,n7 S' ρ M,ρ,rfl,hk u hR,hS2,aD.le_refl _,⟨fun k o hk=>hs k o (hS2' k o hk),fun k o hk=>hf k o (kj hM k o hk),fun k=>?_,hM.dom,fun ℓ B hB=>?_,hM.inj,hM.gl.mono hS2⟩, .p (Bj (hfl u hR) hr),hw⟩
 ·cases hk2:n7 S' ρ M k with
  |none=>exact .inl rfl
  |some o=>
   right
   rcases hd k with h|h
   ·rw[hS2' k o hk2] at h;cases h
   ·cases hk:F k with
    |none=>rfl
    |some o'=>rw[kj hM k o' hk] at h;cases h
 ·obtain⟨b,hb,hrB⟩:=hM.blk _ _ hB
  refine⟨b,hb,hrB.keep hS2 (aD.le_refl _) fun hl=>?_⟩
  have hlt:=hrB.lt hl
  obtain⟨o,ho⟩:∃o,w.heap[b.blk]? =some o:=⟨_,Array.getElem?_eq_getElem hlt⟩
  have hSb:=(hrB.off hl).1
  by_cases hrow:mt ρ M b.blk
  ·have e1:fl S ρ M w b.blk=some o:=by unfold fl;rw[if_pos hrow];exact ho
   refine⟨by rw[hs _ o (hle' _ o e1),ho],?_⟩
   rw[hSb,rC hrow]
  ·have hno:¬own ℓ:=by
    rintro⟨B',h1,h2⟩
    rw[hB] at h1
    cases h1
    exact hrow ⟨ℓ,B,b,hB,hb,h2,hl,rfl⟩
   have hk:=lG (F:=F) (w:=w) (own:=own) hB hb hl hno
   refine⟨by rw[hf b.blk o (hk.trans ho),ho],?_⟩
   rw[hSb,pC hrow]
   rcases hd b.blk with h|h
   ·exact h
   ·rw[hk,ho] at h;cases h
theorem ak.borrow {f:FuncId} {args:List AV} {R:AV->Prop} {K:AV->aj->Prop} {n:Nat} (h:ab P f (args.map (Ew M)) R) (hp:(args.map (Ew M)).all (cJ n)=true) (hfl:∀u,R u->Bh u=true) (hk:∀u,R u->K u M):ak P f args M K:=
 ak.borrowG h (fun S F ρ w vs hM hv=>rf hp (S:=fl S ρ M w) (ρ:=ρ) ⟨by simpa using hv.1,fun i u hu=>by
  rw[List.getElem?_map] at hu
  obtain⟨u0,h0,rfl⟩:=Option.map_eq_some_iff.1 hu
  obtain⟨v,hv1,hvr⟩:=hv.2 i u0 h0
  exact⟨v,hv1,Ex hM hvr⟩⟩) hfl hk
theorem aL.leak {D:List Nat} {fr fr':List AV} {M':aj} (ℓ:Nat) {t:TypeId} {α:Type} {d:α} {enc:α->List AV} {l:List α} (hl:M ℓ=some (.row t d enc l))
  (h:aL D (fr.map (jt ℓ (.sl d enc l))) (M.set ℓ (.gone d enc l)) fr' M'):aL D fr M fr' M':=by
 rw[oy] at*
 intro S F ρ0 ρ a w h0 h1 hM hF
 obtain⟨S1,b,hle,hb,hM1,_⟩:=hM.leak hl
 obtain⟨S2,ρ2,k1,k2,k3,k4⟩:=h S1 F ρ0 ρ a w h0 h1 hM1 ⟨⟨by simpa using hF.1.1,fun i u hu=>by
  rw[List.getElem?_map] at hu
  obtain⟨u0,hu0,rfl⟩:=Option.map_eq_some_iff.1 hu
  obtain⟨v,e,hr⟩:=hF.1.2 i u0 hu0
  exact⟨v,e,ju hM1 (aj.set_eq _ _ _) (hr.mono hle (aD.le_refl _))⟩⟩,hF.2⟩
 exact⟨S2,ρ2,ai.le_trans hle k1,k2,k3,k4⟩
end
theorem lI {p:Prop} (h:p:=by simp only[List.length_cons,List.length_nil];omega):p:=h
theorem nI {c k:Prop} (h':k) (h:c:=by first|omega|(dsimp only;omega)):gU c k:=bI h h'
theorem aI {c:Prop} {n:Int} {K:Int->Prop} (h':K n) (hc:c:=by exact trivial) (h:-9223372036854775808<=n/\n<=9223372036854775807:=by omega):m7 c .i64 n K:=ub hc h h'
theorem tI {p:Prop} {i:Decidable p} {k:Bool->Prop} (h':k true) (h:p:=by omega):ua p i k:=da h h'
theorem fI {p:Prop} {i:Decidable p} {k:Bool->Prop} (h':k false) (h:¬p:=by omega):ua p i k:=j' h h'
theorem dI {P:Program} {tt:TT} {ops:List Oper} {fr:List AV} {M:aj} {K:List AV->aj->Prop} (h:dv P tt (some .any) ops ops fr M K) (hB:gm tt .any ops=true:=by decide+kernel):fL P tt ops fr M K:=Be hB h
theorem dR {P:Program} {tt:TT} {ops:List Oper} {fr:List AV} {M:aj} {K:List AV->aj->Prop} (h:dv P tt (some .rows) ops ops fr M K) (hB:gm tt .rows ops=true:=by decide+kernel):fL P tt ops fr M K:=IG hB h
theorem dP {P:Program} {tt:TT} {ops:List Oper} {fr:List AV} {M:aj} {K:List AV->aj->Prop} (h:dv P tt (some .pers) ops ops fr M K) (hB:gm tt .pers ops=true:=by decide+kernel):fL P tt ops fr M K:=IJ hB h
theorem pI {α β:Type} {enc:α->List AV} {l:List α} {enc':β->List AV} {l':List β} {bytes:Nat} {K:List α->Prop} (l'':List α) (h:l''.map enc=l'.map enc') (hk:K l'')
  (hb:(l.length+l'.length)*bytes<=140737488355328:=by first|omega|(dsimp only;omega)|(simp only[List.length_cons,List.length_nil,List.length_append];omega)):wk enc l enc' l' bytes K:=bD l'' h hb hk
theorem at_ {g k:Prop} (h':k) (h:k->g:=by first|exact fun h=>nI h|exact fun h=>aI h|exact fun h=>dz trivial (by omega) h|exact fun h=>dV trivial (by omega) h|exact fun h=>dI h|exact fun h=>dR h|exact fun h=>dP h|exact fun h=>al rfl h|exact fun h=>pI _ rfl h|exact fun h=>ap _ rfl h|exact fun h=>tI h|exact fun h=>fI h):g:=h h'
theorem oP {P:Program} {M:aj} {f:FuncId} {args:List AV} {v:AV} {K:AV->aj->Prop} (h:ab P f args (fun u=>u=v)) (hk:K v M) (hp:args.all (cJ 5)=true:=by exact rfl):ak P f args M K:=
 ak.of_pure (n:=5) h hp fun u hu=>by subst hu;exact hk
theorem oC {P:Program} {f:FuncId} {args:List AV} {v:AV} {K:AV->Prop} (h:ab P f args (fun u=>u=v)) (hk:K v) (hp:args.all (cJ 5)=true:=by exact rfl):pg P f args K:=
 A0 5 h hp ⟨_,rfl⟩ fun u hu=>by subst hu;exact hk
theorem dC {P:Program} {M:aj} {f:FuncId} {args:List AV} {p:Prop} {i:Decidable p} {K:AV->aj->Prop} (h:ab P f args (fun u=>u= .bool (@decide p i))) (ht:p->K (.bool true) M) (hf:¬p->K (.bool false) M) (hp:args.all (cJ 5)=true:=by exact rfl):ak P f args M K:=
 ak.dcall (n:=5) h hp ht hf
theorem dD {P:Program} {f:FuncId} {args:List AV} {p:Prop} {i:Decidable p} {K:AV->Prop} (h:ab P f args (fun u=>u= .bool (@decide p i))) (ht:p->K (.bool true)) (hf:¬p->K (.bool false)) (hp:args.all (cJ 5)=true:=by exact rfl):pg P f args K:=
 IP 5 h hp ht hf
end Go.Proofs.YtnjggjhkfncnlaaGreatDoor
