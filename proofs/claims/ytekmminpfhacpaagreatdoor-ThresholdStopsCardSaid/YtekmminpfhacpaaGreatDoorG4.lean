import Derived.Test.YtekmminpfhacpaaGreatDoorG3
import Derived.Scope
set_option linter.unusedVariables false
set_option linter.unusedSimpArgs false
namespace Go.Proofs.YtekmminpfhacpaaGreatDoor
section
inductive HM
 |normal
 |exit (id:Nat)
 |ret
def Cp:Exit->Option HM
 | .normal=>some .normal
 | .exit id=>some (.exit id)
 | .ret=>some .ret
 |_=>none
abbrev ez:=HM->List AV->aj->Prop
def n9 (ρ:ax) (D:List Nat):Prop:=∀ℓ b,ρ ℓ=some b->ℓ∈D
structure aF (P:Program) (D:List Nat) (c:Code) (fr:List AV) (M:aj) (Q:ez):Prop where
 out:∀S F ρ0 ρ a w,n9 ρ0 D->ax.le ρ0 ρ->az S F ρ M w->dJ S ρ a fr->c.wp P (fun e a' w'=>∃x,Cp e=some x/\cr S F ρ0 w (Q x) a' w') a w
theorem cx {P:Program} {D:List Nat} {c:Code} {fr:List AV} {M:aj} {Q:ez}:aF P D c fr M Q↔(∀S F ρ0 ρ a w,n9 ρ0 D->ax.le ρ0 ρ->az S F ρ M w->dJ S ρ a fr->c.wp P (fun e a' w'=>∃x,Cp e=some x/\cr S F ρ0 w (Q x) a' w') a w):=⟨fun h=>h.out,fun h=>⟨h⟩⟩
structure fM (P:Program) (tt:TT) (ops:List Oper) (fr:List AV) (M:aj) (K:List AV->aj->Prop):Prop where
 out:(∃r,fL tt r ops=true/\df P tt (some r) ops ops fr M K)\/(∃r ds,iO tt r ds ops=true/\p6 P tt r ds ops ops fr M K)\/∃d,bq P tt d ops K ops.length [] fr M
theorem dg {P:Program} {tt:TT} {ops:List Oper} {fr:List AV} {M:aj} {K:List AV->aj->Prop}:fM P tt ops fr M K↔((∃r,fL tt r ops=true/\df P tt (some r) ops ops fr M K)\/(∃r ds,iO tt r ds ops=true/\p6 P tt r ds ops ops fr M K)\/∃d,bq P tt d ops K ops.length [] fr M):=⟨fun h=>h.out,fun h=>⟨h⟩⟩
theorem zo {P:Program} {tt:TT} {ops:List Oper} {fr:List AV} {M:aj} {K:List AV->aj->Prop} (hB:fL tt .any ops=true) (h:df P tt (some .any) ops ops fr M K):fM P tt ops fr M K:=by
 rw[dg];exact .inl ⟨_,hB,h⟩
theorem Gz {P:Program} {tt:TT} {ops:List Oper} {fr:List AV} {M:aj} {K:List AV->aj->Prop} (hB:fL tt .rows ops=true) (h:df P tt (some .rows) ops ops fr M K):fM P tt ops fr M K:=by
 rw[dg];exact .inl ⟨_,hB,h⟩
theorem we {P:Program} {tt:TT} {ops:List Oper} {fr:List AV} {M:aj} {K:List AV->aj->Prop} (hB:fL tt .fresh ops=true) (h:df P tt (some .fresh) ops ops fr M K):fM P tt ops fr M K:=by
 rw[dg];exact .inl ⟨_,hB,h⟩
theorem oa {P:Program} {tt:TT} {ops:List Oper} {fr:List AV} {M:aj} {K:List AV->aj->Prop} (hB:fL tt .own ops=true) (h:df P tt (some .own) ops ops fr M K):fM P tt ops fr M K:=by
 rw[dg];exact .inl ⟨_,hB,h⟩
theorem zp {P:Program} {tt:TT} {ops:List Oper} {fr:List AV} {M:aj} {K:List AV->aj->Prop} (r:aD) (ds:List Nat) (hB:iO tt r ds ops=true) (h:p6 P tt r ds ops ops fr M K):fM P tt ops fr M K:=by
 rw[dg];exact .inr (.inl ⟨_,_,hB,h⟩)
theorem s4 {P:Program} {tt:TT} {ops:List Oper} {fr:List AV} {M:aj} {K:List AV->aj->Prop} (h:bq P tt (some .own) ops K ops.length [] fr M):fM P tt ops fr M K:=by
 rw[dg];exact .inr (.inr ⟨_,h⟩)
theorem GA {P:Program} {tt:TT} {ops:List Oper} {fr:List AV} {M:aj} {K:List AV->aj->Prop} (h:bq P tt none ops K ops.length [] fr M):fM P tt ops fr M K:=by
 rw[dg];exact .inr (.inr ⟨_,h⟩)
theorem GB {P:Program} {tt:TT} {ops:List Oper} {fr:List AV} {M:aj} {K:List AV->aj->Prop} (hB:fL tt .pers ops=true) (h:df P tt (some .pers) ops ops fr M K):fM P tt ops fr M K:=by
 rw[dg];exact .inl ⟨_,hB,h⟩
def ct (P:Program) (tt:TT) (D:List Nat):Code->List AV->aj->ez->Prop
 | .skip,fr,M,Q=>Q .normal fr M
 | .region _ ops draw,fr,M,Q=>match draw with
  |false=>df P tt none ops.toList ops.toList fr M (Q .normal)
  |true=>fM P tt ops.toList fr M (Q .normal)
 | .seq a b,fr,M,Q=>ct P tt D a fr M fun e fr' M'=>match e with
  | .normal=>ct P tt D b fr' M' Q
  | .exit i=>Q (.exit i) fr' M'
  | .ret=>Q .ret fr' M'
 | .cond c x y,fr,M,Q=>HC fr c fun u=>match u with
  | .bool true=>ct P tt D x fr M Q
  | .bool false=>ct P tt D y fr M Q
  |_=>False
 | .block id c,fr,M,Q=>ct P tt D c fr M fun e fr' M'=>match e with
  | .normal=>Q .normal fr' M'
  | .exit i=>match Nat.beq i id with
   |true=>Q .normal fr' M'
   |false=>Q (.exit i) fr' M'
  | .ret=>Q .ret fr' M'
 | .exit id,fr,M,Q=>Q (.exit id) fr M
 | .ret,fr,M,Q=>Q .ret fr M
 | .loop c,fr,M,Q=>aF P D (.loop c) fr M Q
 | .rangeFunc f ps as c,fr,M,Q=>aF P D (.rangeFunc f ps as c) fr M Q
 | .scope c,fr,M,Q=>ct P tt D c fr M Q
 | .label _,fr,M,Q=>Q .normal fr M
 | .goto l,fr,M,Q=>aF P D (.goto l) fr M Q
 | .refuse s,fr,M,Q=>aF P D (.refuse s) fr M Q
section
variable {P:Program} {tt:TT} {D:List Nat}
theorem aF.mono {c:Code} {fr:List AV} {M:aj} {Q Q':ez} (h:aF P D c fr M Q) (hq:∀e f M,Q e f M->Q' e f M):aF P D c fr M Q':=by
 simp only[cx] at*
 intro S F ρ0 ρ a w h0 h1 hM hF
 exact wp_mono (h S F ρ0 ρ a w h0 h1 hM hF) fun e a' w' ⟨x,hx,ha⟩=>⟨x,hx,ha.mono fun f M=>hq x f M⟩
theorem fv (hT:aQ P tt=true) (hm:P.follows .mixedOrders=true):∀(c:Code) (fr:List AV) (M:aj) (Q:ez),ct P tt D c fr M Q->aF P D c fr M Q:=by
 intro c
 induction c with
 |skip=>
  intro fr M Q h
  rw[cx]
  intro S F ρ0 ρ a w h0 h1 hM hF
  exact wp_skip ⟨.normal,rfl,fr,M,S,ρ,h,ai.le_refl _,h1,hM,hF,cO.refl _⟩
 |region id ops draw=>
  intro fr M Q h
  rw[cx]
  intro S F ρ0 ρ a w h0 h1 hM hF
  simp only[ct] at h
  have hQ:∀a' w',cr S F ρ w (Q .normal) a' w'->∃x,Cp .normal=some x/\cr S F ρ0 w (Q x) a' w':=fun a' w' ⟨f,M',S',ρ',k,k1,k2,k3⟩=>⟨.normal,rfl,f,M',S',ρ',k,k1,ax.le_trans h1 k2,k3⟩
  have e:ops=ops.toList.toArray:=by simp
  cases draw with
  |false=>
   rw[e]
   exact wp_region_lit (v9 hT ops.toList S ρ w a fr M h hM hF hQ)
  |true=>
   simp only at h
   rw[dg] at h
   rw[e]
   rcases h with ⟨r,h1,h2⟩|⟨r,ds,h1,h2⟩|⟨d,h2⟩
   ·exact sW hT hm h1 h2 hM hF hQ
   ·exact q7 hT hm h1 h2 hM hF hQ
   ·exact q8 hT hm h2 hM hF hQ
 |seq x y ihx ihy=>
  intro fr M Q h
  have hx:=ihx fr M _ h
  simp only[cx] at*
  intro S F ρ0 ρ a w h0 h1 hM hF
  refine wp_seq (wp_mono (hx S F ρ0 ρ a w h0 h1 hM hF) ?_)
  rintro e a' w' ⟨ex,he,f,M',S',ρ',k,k1,k2,k3,k4,k5⟩
  cases e with
  |normal=>
   cases he
   refine wp_mono (ihy f M' Q k S' F ρ0 ρ' a' w' h0 k2 k3 k4) ?_
   rintro e2 a2 w2 ⟨ex2,he2,ha⟩
   exact⟨ex2,he2,ha.trans k1 (ax.le_refl _) k5⟩
  |exit i=>cases he;exact⟨_,rfl,f,M',S',ρ',k,k1,k2,k3,k4,k5⟩
  |ret=>cases he;exact⟨_,rfl,f,M',S',ρ',k,k1,k2,k3,k4,k5⟩
  |goto l=>cases he
  |panic l=>cases he
  |outgrown=>cases he
 |cond c x y ihx ihy=>
  intro fr M Q h
  simp only[ct,qZ] at h
  rw[cx]
  intro S F ρ0 ρ a w h0 h1 hM hF
  have hc:=hF.eval c
  split at h
  ·rename_i hb
   rw[hb] at hc
   have:=ihx fr M Q h
   rw[cx] at this
   exact wp_cond_true hc.bool_inv (this S F ρ0 ρ a w h0 h1 hM hF)
  ·rename_i hb
   rw[hb] at hc
   have:=ihy fr M Q h
   rw[cx] at this
   exact wp_cond_false hc.bool_inv (this S F ρ0 ρ a w h0 h1 hM hF)
  ·exact h.elim
 |block id c ih=>
  intro fr M Q h
  have hx:=ih fr M _ h
  simp only[cx] at*
  intro S F ρ0 ρ a w h0 h1 hM hF
  refine wp_block (wp_mono (hx S F ρ0 ρ a w h0 h1 hM hF) ?_)
  rintro e a' w' ⟨ex,he,f,M',S',ρ',k,k1,k2,k3,k4,k5⟩
  cases e with
  |normal=>cases he;exact⟨_,rfl,f,M',S',ρ',k,k1,k2,k3,k4,k5⟩
  |exit i=>
   cases he
   simp only[Exit.inBlock]
   simp only at k
   split at k
   ·rename_i hb
    rw[if_pos (Nat.eq_of_beq_eq_true hb)]
    exact⟨_,rfl,f,M',S',ρ',k,k1,k2,k3,k4,k5⟩
   ·rename_i hb
    rw[if_neg (fun e=>by subst e;simp at hb)]
    exact⟨_,rfl,f,M',S',ρ',k,k1,k2,k3,k4,k5⟩
  |ret=>cases he;exact⟨_,rfl,f,M',S',ρ',k,k1,k2,k3,k4,k5⟩
  |goto l=>cases he
  |panic l=>cases he
  |outgrown=>cases he
 |exit id=>
  intro fr M Q h
  rw[cx]
  intro S F ρ0 ρ a w h0 h1 hM hF
  exact wp_exit ⟨_,rfl,fr,M,S,ρ,h,ai.le_refl _,h1,hM,hF,cO.refl _⟩
 |ret=>
  intro fr M Q h
  rw[cx]
  intro S F ρ0 ρ a w h0 h1 hM hF
  exact wp_ret ⟨_,rfl,fr,M,S,ρ,h,ai.le_refl _,h1,hM,hF,cO.refl _⟩
 |loop c _=>intro fr M Q h;exact h
 |rangeFunc f ps as c _ _=>intro fr M Q h;exact h
 |scope c ih=>
  intro fr M Q h
  have h2:=ih fr M Q h
  rw[cx] at h2⊢
  intro S F ρ0 ρ a w h0 h1 hM hF
  refine wp_scope_straight (wp_mono (h2 S F ρ0 ρ a w h0 h1 hM hF) ?_)
  rintro e a' w' ⟨x,hx,ha⟩
  cases e with
  |goto l=>cases hx
  |normal=>exact⟨x,hx,ha⟩
  |exit i=>exact⟨x,hx,ha⟩
  |ret=>exact⟨x,hx,ha⟩
  |panic l=>cases hx
  |outgrown=>cases hx
 |label l=>
  intro fr M Q h
  rw[cx]
  intro S F ρ0 ρ a w h0 h1 hM hF
  exact wp_label ⟨.normal,rfl,fr,M,S,ρ,h,ai.le_refl _,h1,hM,hF,cO.refl _⟩
 |goto l=>intro fr M Q h;exact h
 |refuse s=>intro fr M Q h;exact h
structure aR (D:List Nat) (fr:List AV) (M:aj) (fr':List AV) (M':aj):Prop where
 out:∀S F ρ0 ρ a w,n9 ρ0 D->ax.le ρ0 ρ->az S F ρ M w->dJ S ρ a fr->∃S' ρ',S.le S'/\ax.le ρ0 ρ'/\az S' F ρ' M' w/\dJ S' ρ' a fr'
theorem m5 {D:List Nat} {fr:List AV} {M:aj} {fr':List AV} {M':aj}:aR D fr M fr' M'↔(∀S F ρ0 ρ a w,n9 ρ0 D->ax.le ρ0 ρ->az S F ρ M w->dJ S ρ a fr->∃S' ρ',S.le S'/\ax.le ρ0 ρ'/\az S' F ρ' M' w/\dJ S' ρ' a fr'):=⟨fun h=>h.out,fun h=>⟨h⟩⟩
theorem aF.sub {c:Code} {fr fr':List AV} {M M':aj} {Q:ez} (hs:aR D fr M fr' M') (h:aF P D c fr' M' Q):aF P D c fr M Q:=by
 simp only[cx,m5] at*
 intro S F ρ0 ρ a w h0 h1 hM hF
 obtain⟨S',ρ',k1,k2,k3,k4⟩:=hs S F ρ0 ρ a w h0 h1 hM hF
 refine wp_mono (h S' F ρ0 ρ' a w h0 k2 k3 k4) ?_
 rintro e a' w' ⟨x,hx,ha⟩
 exact⟨x,hx,ha.trans k1 (ax.le_refl _) (cO.refl _)⟩
def s5 {X:Type _} (D:List Nat) (I:X->Prop) (frI:X->List AV) (MI:X->aj) (μ:X->Nat) (x:X) (Q:ez):ez:=fun e fr M=>match e with
 | .normal=>∃x',aR D fr M (frI x') (MI x')/\I x'/\μ x'<μ x
 | .exit i=>Q (.exit i) fr M
 | .ret=>Q .ret fr M
theorem aF.loop {c:Code} {fr:List AV} {M:aj} {Q:ez} {X:Type _} (I:X->Prop) (frI:X->List AV) (MI:X->aj) (μ:X->Nat) (x0:X) (hi:I x0) (h0:aR D fr M (frI x0) (MI x0))
  (h:∀x,I x->aF P D c (frI x) (MI x) (s5 D I frI MI μ x Q)):aF P D (.loop c) fr M Q:=by
 refine aF.sub h0 ?_
 rw[cx]
 intro S F ρ0 ρ a w hin h1 hM hF
 have key:∀(n:Nat) (x:X) (S1:ai) (ρ1:ax) (a1:Act) (w1:World),μ x=n->I x->S.le S1->cO w w1->ax.le ρ0 ρ1->az S1 F ρ1 (MI x) w1->dJ S1 ρ1 a1 (frI x)->
   ∀b k cs,∃e a' w',(∃x,Cp e=some x/\cr S F ρ0 w (Q x) a' w')/\Arrives P (lone (b.at a1 (.code c:: .inLoop c::k)) cs w1) b k cs e a' w':=by
  intro n
  induction n using Nat.strongRecOn with
  |_ n ih=>
   intro x S1 ρ1 a1 w1 hn hIx hS hw hρ hM1 hF1 b k cs
   have hx:=h x hIx
   rw[cx] at hx
   obtain⟨e,a2,w2,⟨ex,he,f,M',S2,ρ2,kk,k1,k2,k3,k4,k5⟩,harr⟩:=hx S1 F ρ0 ρ1 a1 w1 hin hρ hM1 hF1 b (.inLoop c::k) cs
   cases e with
   |normal=>
    cases he
    obtain⟨x',hsub,hIx',hlt⟩:=kk
    rw[m5] at hsub
    obtain⟨S3,ρ3,j1,j2,j3,j4⟩:=hsub S2 F ρ0 ρ2 a2 w2 hin k2 k3 k4
    obtain⟨e3,a3,w3,hq,harr3⟩:=ih (μ x') (hn▸hlt) x' S3 ρ3 a2 w2 rfl hIx' (ai.le_trans hS (ai.le_trans k1 j1)) (hw.trans k5) j2 j3 j4 b k cs
    exact⟨e3,a3,w3,hq, .of_steps (Steps.trans harr (.one step_inLoop)) harr3⟩
   |exit i=>cases he;exact⟨_,a2,w2,⟨_,rfl,f,M',S2,ρ2,kk,ai.le_trans hS k1,k2,k3,k4,hw.trans k5⟩, .pass (x:= .inLoop c) rfl (fun _ _=> .inl (by simp)) harr⟩
   |ret=>cases he;exact⟨_,a2,w2,⟨_,rfl,f,M',S2,ρ2,kk,ai.le_trans hS k1,k2,k3,k4,hw.trans k5⟩, .pass (x:= .inLoop c) rfl (fun _ _=> .inl (by simp)) harr⟩
   |goto l=>cases he
   |panic l=>cases he
   |outgrown=>cases he
 intro b k cs
 obtain⟨e,a',w',hq,harr⟩:=key _ x0 S ρ a w rfl hi (ai.le_refl _) (cO.refl _) h1 hM hF b k cs
 exact⟨e,a',w',hq, .of_steps (.one step_loop) harr⟩
end
end
section
section
theorem aR.by_ {D:List Nat} {fr fr':List AV} {M:aj} (lm:cR) (L:List (Nat×bP)) (n:Nat) (hs:(ia lm L&&ib L lm&&pQ lm D)=true) (hm:dc lm n M L) (hf:hZ lm n fr fr'):aR D fr M fr' (aj.ofL L):=by
 rw[m5]
 intro S F ρ0 ρ a w h0 h1 hM hF
 rw[Bool.and_eq_true,Bool.and_eq_true] at hs
 refine⟨S,bn lm ρ,ai.le_refl _,fun ℓ b hb=>?_,hM.relabel hm hs.1.1 hs.1.2,(iG n).2 fr fr' _ hf hF.1,hF.2⟩
 have:=List.all_eq_true.1 hs.2 ℓ (h0 ℓ b hb)
 unfold bn
 cases hf:aG lm ℓ with
 |none=>rw[hf] at this;cases this
 |some x=>
  rw[hf] at this
  cases x with
  |old m=>
   simp only at this⊢
   rw[Nat.eq_of_beq_eq_true this]
   exact h1 ℓ b hb
  |nil _=>cases this
end
def Cq:Nat->(List AV->Prop)->Prop
 |0,k=>k []
 |n+1,k=>Cq n fun l=>k (.tup []::l)
theorem wg:∀(n:Nat) (k:List AV->Prop),Cq n k=k (List.replicate n (.tup []))
 |0,k=>rfl
 |n+1,k=>by rw[Cq,wg n];rfl
def s6:List AV->Nat->(List AV->Prop)->Prop
 |[],n,k=>Cq n k
 |u::us,n,k=>s6 us n fun l=>k (u::l)
theorem gJ:∀(us:List AV) (n:Nat) (k:List AV->Prop),s6 us n k=k (us++List.replicate n (.tup []))
 |[],n,k=>by rw[s6,wg];rfl
 |u::us,n,k=>by rw[s6,gJ us n];rfl
def mj (tmps:Array Value):ResultVar->Sem Value
 | .tmp t=>pure (tmps.getD t undef)
 | .cell x t=>do loadVar t (<-asAddr (tmps.getD x undef))
def ld (tt:TT) (fr:List AV) (M:aj):List ResultVar->(List AV->Prop)->Prop
 |[],k=>k []
 |r::rs,k=>match r with
  | .tmp t=>qX fr t fun u=>ld tt fr M rs fun us=>k (u::us)
  | .cell a t=>qX fr a fun p=>fY (eg tt t M p) fun u=>ld tt fr M rs fun us=>k (u::us)
def fN:List AV->AV
 |[u]=>u
 |us=> .tup us
def ie:List AV->aj->(List AV->aj->Prop)->Prop
 |[],M,K=>K [] M
 |u::us,M,K=>match u with
  | .agg cs=>cW cs M fun cs' M'=>ie us M' fun us' M''=>K (.agg cs'::us') M''
  | .ptr ℓ 0=>match M ℓ with
   |some (.box _ cells)=>match bJ cells with
    |true=>ie us (M.set ℓ .dead) fun us' M''=>K (.pd cells::us') M''
    |false=>ie us M fun us' M''=>K (.ptr ℓ 0::us') M''
   |_=>ie us M fun us' M''=>K (.ptr ℓ 0::us') M''
  |u=>cW [u] M fun x M'=>ie us M' fun us' M''=>K (x++us') M''
section
variable {S F:ai} {ρ:ax} {M:aj} {w:World} {P:Program} {tt:TT}
theorem lg (hT:aQ P tt=true) (hM:az S F ρ M w) {a:Act} {fr:List AV} (hF:dJ S ρ a fr):∀(rs:List ResultVar) (k:List AV->Prop),ld tt fr M rs k->
  ∃vs us,k us/\aW S ρ vs us/\vs.length=rs.length/\(rs.mapM (mj a.tmps)).run P w= .ok vs w
 |[],k,h=>⟨[],[],h,aW.nil _ _,rfl,by simp⟩
 |r::rs,k,h=>by
  cases r with
  |tmp t=>
   simp only[ld,jO] at h
   obtain⟨vs,us,hk,hv,hl,hr⟩:=lg hT hM hF rs _ h
   exact⟨a.tmps.getD t undef::vs,_,hk,aW.cons (hF.eval (.tmp t)) hv,by simp[hl],by simp[List.mapM_cons,hr,mj]⟩
  |cell x t=>
   simp only[ld,jO] at h
   have hx:=hF.eval (.tmp x)
   obtain⟨v,u,he,hv,h⟩:=yU h (pJ (t:=t) hT hM hx).next
   obtain⟨vs,us,hk,hvs,hl,hr⟩:=lg hT hM hF rs _ h
   have he':(Instr.loadAt t (a.eval (.tmp x))).run P w= .ok v w:=by
    simp only[Sem.run_bind] at he
    cases hq:(Instr.loadAt t (a.eval (.tmp x))).run P w with
    |ok y w'=>rw[hq] at he;simp at he;rw[he.1,he.2]
    |halt y w'=>rw[hq] at he;simp at he
   have he2:(mj a.tmps (.cell x t)).run P w= .ok v w:=by
    unfold mj
    have:a.eval (.tmp x)=a.tmps.getD x undef:=rfl
    rw[this] at he'
    show(do loadVar t (<-asAddr (a.tmps.getD x undef)):Sem Value).run P w= .ok v w
    generalize a.tmps.getD x undef=y at he'⊢
    unfold Instr.loadAt Instr.sureAddr at he'
    cases y with
    |pointer ad=>
     cases ad with
     |some ad=>simpa[asAddr] using he'
     |none=>simp at he'
    |_=>simp at he'
   exact⟨v::vs,_,hk,aW.cons hv hvs,by simp[hl],by simp[List.mapM_cons,he2,hr]⟩
theorem gh:∀(us:List AV) (vs:List Value) (S:ai) (M:aj) (K:List AV->aj->Prop),ie us M K->aW S ρ vs us->az S F ρ M w->
  ∃us' M' S',K us' M'/\S.le S'/\aW S' ρ vs us'/\az S' F ρ M' w
 |[],vs,S,M,K,h,hv,hM=>⟨[],M,S,h,ai.le_refl _,hv,hM⟩
 |u::us,vs,S,M,K,h,hv,hM=>by
  obtain⟨x,xs,rfl,hx,hxs⟩:=hv.cons_inv
  simp only[ie] at h
  split at h
  ·rename_i cs
   obtain⟨ys,rfl,hys⟩:=hx.agg_inv
   obtain⟨cs',M1,S1,h,hle,hc,hM1,_⟩:=fp _ _ _ _ _ h hys hM
   obtain⟨us',M',S',hK,hle',hvs',hM'⟩:=gh us xs S1 M1 _ h (hxs.mono hle (ax.le_refl _)) hM1
   refine⟨_,M',S',hK,ai.le_trans hle hle',aW.cons ?_ hvs',hM'⟩
   have:=RV.agg_mk (hc.mono hle' (ax.le_refl _))
   simpa using this
  ·split at h
   ·rename_i hl
    split at h
    ·rename_i hp
     obtain⟨S1,b,hle,hb,hM1,hr⟩:=hM.leakBox hl (fun j u v hu hv=>by
      have ho:kQ u=true:=by
       have:∀(l:List AV),bJ l=true->∀u∈l,kQ u=true:=by
        intro l
        induction l with
        |nil=>intro _ u hu;cases hu
        |cons a l ih=>
         intro hp u hu
         simp only[bJ] at hp
         split at hp
         ·rename_i ha
          rcases List.mem_cons.1 hu with rfl|hu
          ·exact ha
          ·exact ih hp u hu
         ·simp at hp
       exact this _ hp u (List.mem_of_getElem? hu)
      exact(su ho hv).1)
     obtain⟨us',M',S',hK,hle',hvs',hM'⟩:=gh us xs S1 _ _ h (hxs.mono hle (ax.le_refl _)) hM1
     obtain⟨b',hb',rfl⟩:=hx.ptr_inv
     rw[hb] at hb';cases hb'
     exact⟨_,M',S',hK,ai.le_trans hle hle',aW.cons (.p (hr.mono hle')) hvs',hM'⟩
    ·obtain⟨us',M',S',hK,hle',hvs',hM'⟩:=gh us xs S M _ h hxs hM
     exact⟨_,M',S',hK,hle',aW.cons (hx.mono hle' (ax.le_refl _)) hvs',hM'⟩
   ·obtain⟨us',M',S',hK,hle',hvs',hM'⟩:=gh us xs S M _ h hxs hM
    exact⟨_,M',S',hK,hle',aW.cons (hx.mono hle' (ax.le_refl _)) hvs',hM'⟩
  ·obtain⟨y,M1,S1,h,hle,hc,hM1,_⟩:=fp _ [x] _ _ _ h (aW.cons hx (aW.nil _ _)) hM
   obtain⟨us',M',S',hK,hle',hvs',hM'⟩:=gh us xs S1 M1 _ h (hxs.mono hle (ax.le_refl _)) hM1
   exact⟨_,M',S',hK,ai.le_trans hle hle',(hc.mono hle' (ax.le_refl _)).append hvs',hM'⟩
theorem ob {vs:List Value} {us:List AV} (hv:aW S ρ vs us):RV S ρ (if h:vs.length=1 then vs[0] else .tuple vs.toArray) (fN us):=by
 cases us with
 |nil=>rw[hv.nil_inv];simpa[fN] using RV.tup_mk (aW.nil S ρ)
 |cons u us=>
  obtain⟨x,xs,rfl,hx,hxs⟩:=hv.cons_inv
  cases us with
  |nil=>have:=hxs.nil_inv;subst this;simpa[fN] using hx
  |cons u2 us=>
   obtain⟨x2,xs2,rfl,_,_⟩:=hxs.cons_inv
   simpa[fN] using RV.tup_mk hv
def EO (tt:TT) (rs:List ResultVar) (R:AV->aj->Prop):ez:=fun e fr M=>match e with
 | .normal=>ld tt fr M rs fun us=>R (fN us) M
 | .ret=>ld tt fr M rs fun us=>R (fN us) M
 | .exit _=>False
def GC (tt:TT) (rs:List ResultVar) (R:AV->aj->Prop):ez:=fun e fr M=>match e with
 | .normal=>ld tt fr M rs fun us=>ie us M fun us' M'=>R (fN us') M'
 | .ret=>ld tt fr M rs fun us=>ie us M fun us' M'=>R (fN us') M'
 | .exit _=>False
def GD (tt:TT) (rs:List ResultVar) (R:AV->Prop):ez:=fun e fr M=>match e with
 | .normal=>ld tt fr M rs fun us=>ie us M fun us' _=>R (fN us')/\cg 5 (fN us')=true
 | .ret=>ld tt fr M rs fun us=>ie us M fun us' _=>R (fN us')/\cg 5 (fN us')=true
 | .exit _=>False
theorem jv {fn:Func} {tmps:Array Value} {vs:List Value} (h:(fn.results.toList.mapM (mj tmps)).run P w= .ok vs w):(results fn tmps).run P w= .ok (if h:vs.length=1 then vs[0] else .tuple vs.toArray) w:=by
 have e:results fn tmps=(do
   let vs <-fn.results.mapM (mj tmps)
   pure (if h:vs.size=1 then vs[0] else .tuple vs)):=by
  unfold results
  congr 2
 rw[e,Array.mapM_eq_mapM_toList]
 simp only[Sem.run_bind,Sem.run_map,h,Result.andThen_ok,Sem.run_pure]
 congr 1
theorem ml {f:FuncId} {fn:Func} {c:Code} {args:List AV} {D:List Nat} (hf:P.funcs[f]? =some fn) (hb:fn.body=some c) {Q:ez}
  (hw:s6 args (fn.ntmps-args.length) fun fr=>aF P D c fr M Q) {ρ0:ax} (hD:n9 ρ0 D) {vs:List Value} (hM:az S F ρ0 M w) (hv:aW S ρ0 vs args) {R:Ending->World->Prop}
  (hR:∀(e:HM) a' w',cr S F ρ0 w (Q e) a' w'->a'.defers=[]->(∀i,e≠ .exit i)/\∃v,(results fn a'.tmps).run P w'= .ok v w'/\R (.returned v) w'):Calls P f vs.toArray w R:=by
 rw[gJ] at hw
 rw[cx] at hw
 refine calls_of_wp hf hb ?_
 have hlen:=hv.1
 have hF:dJ S ρ0 {tmps:=vs.toArray++Array.replicate (fn.ntmps-vs.toArray.size) undef,defers:=[]} (args++List.replicate (fn.ntmps-args.length) (.tup [])):=by
  refine⟨?_,rfl⟩
  have e:(vs.toArray++Array.replicate (fn.ntmps-vs.toArray.size) undef).toList=vs++List.replicate (fn.ntmps-args.length) undef:=by simp[hlen]
  rw[e]
  refine hv.append ⟨by simp,fun i u hu=>?_⟩
  have hi:=(List.getElem?_eq_some_iff.1 hu).1
  simp only[List.length_replicate] at hi
  have hu':u= .tup []:=by
   rw[List.getElem?_replicate] at hu
   simp[hi] at hu
   exact hu.symm
  subst hu'
  exact⟨undef,by simp[hi],RV.tup_mk (aW.nil _ _)⟩
 refine wp_mono (hw S F ρ0 ρ0 _ w hD (ax.le_refl _) hM hF) ?_
 rintro e a' w' ⟨x,hx,ha⟩
 have hd:a'.defers=[]:=by obtain⟨_,_,_,_,_,_,_,_,hF',_⟩:=ha;exact hF'.2
 obtain⟨h1,v,h2,h3⟩:=hR x a' w' ha hd
 cases e with
 |normal=>exact⟨hd,v,h2,h3⟩
 |ret=>exact⟨hd,v,h2,h3⟩
 |exit i=>cases hx;exact absurd rfl (h1 i)
 |goto l=>cases hx
 |panic l=>cases hx
 |outgrown=>cases hx
theorem oc {f:FuncId} {fn:Func} {c:Code} (hf:P.funcs[f]? =some fn) (hb:fn.body=some c) (hn:(fn.name== "runtime.NumGoroutine")=false):mH P f:=⟨fn,hf,hn,by rw[hb];rfl⟩
theorem am.intro (hT:aQ P tt=true) (hm:P.follows .mixedOrders=true) {f:FuncId} {fn:Func} {c:Code} {args:List AV} (L:List (Nat×bP)) {R:AV->aj->Prop} (hf:P.funcs[f]? =some fn) (hb:fn.body=some c) (hn:(fn.name== "runtime.NumGoroutine")=false)
  (h:s6 args (fn.ntmps-args.length) fun fr=>ct P tt (L.map (·.1)) c fr (aj.ofL L) (EO tt fn.results.toList R)):am P f args (aj.ofL L) R:=by
 rw[cf]
 refine⟨oc hf hb hn,fun S F ρ vs w hM hv=>?_⟩
 have hD:n9 ρ (L.map (·.1)):=fun ℓ b hb=>by
  have:=hM.dom ℓ b hb
  cases hB:aj.ofL L ℓ with
  |none=>exact absurd hB this
  |some B=>exact List.mem_map_of_mem (f:=(·.1)) (gC hB)
 refine ml (D:=L.map (·.1)) (Q:=EO tt fn.results.toList R) hf hb ?_ hD hM hv fun e a' w' ha hd=>?_
 ·rw[gJ] at h⊢;exact fv hT hm c _ _ _ h
 ·obtain⟨fr,M',S',ρ',hk,h1,h2,h3,h4,h5⟩:=ha
  have fin:ld tt fr M' fn.results.toList (fun us=>R (fN us) M')->∃v,(results fn a'.tmps).run P w'= .ok v w'/\kW S F ρ w R (.returned v) w':=by
   intro hk
   obtain⟨vs',us,hK,hvs,hl,hr⟩:=lg hT h3 h4 _ _ hk
   exact⟨_,jv hr,_,_,M',S',ρ',rfl,hK,h1,h2,h3,ob hvs,h5⟩
  cases e with
  |normal=>exact⟨by simp,fin hk⟩
  |ret=>exact⟨by simp,fin hk⟩
  |exit i=>exact hk.elim
theorem am.introL (hT:aQ P tt=true) (hm:P.follows .mixedOrders=true) {f:FuncId} {fn:Func} {c:Code} {args:List AV} (L:List (Nat×bP)) {R:AV->aj->Prop} (hf:P.funcs[f]? =some fn) (hb:fn.body=some c) (hn:(fn.name== "runtime.NumGoroutine")=false)
  (h:s6 args (fn.ntmps-args.length) fun fr=>ct P tt (L.map (·.1)) c fr (aj.ofL L) (GC tt fn.results.toList R)):am P f args (aj.ofL L) R:=by
 rw[cf]
 refine⟨oc hf hb hn,fun S F ρ vs w hM hv=>?_⟩
 have hD:n9 ρ (L.map (·.1)):=fun ℓ b hb=>by
  have:=hM.dom ℓ b hb
  cases hB:aj.ofL L ℓ with
  |none=>exact absurd hB this
  |some B=>exact List.mem_map_of_mem (f:=(·.1)) (gC hB)
 refine ml (D:=L.map (·.1)) (Q:=GC tt fn.results.toList R) hf hb ?_ hD hM hv fun e a' w' ha hd=>?_
 ·rw[gJ] at h⊢;exact fv hT hm c _ _ _ h
 ·obtain⟨fr,M',S',ρ',hk,h1,h2,h3,h4,h5⟩:=ha
  have fin:(ld tt fr M' fn.results.toList fun us=>ie us M' fun us' M''=>R (fN us') M'')->∃v,(results fn a'.tmps).run P w'= .ok v w'/\kW S F ρ w R (.returned v) w':=by
   intro hk
   obtain⟨vs',us,hK,hvs,hl,hr⟩:=lg hT h3 h4 _ _ hk
   obtain⟨us',M2,S2,hR,hle,hvs2,hM2⟩:=gh _ _ _ _ _ hK hvs h3
   exact⟨_,jv hr,_,_,M2,S2,ρ',rfl,hR,ai.le_trans h1 hle,h2,hM2,ob hvs2,h5⟩
  cases e with
  |normal=>exact⟨by simp,fin hk⟩
  |ret=>exact⟨by simp,fin hk⟩
  |exit i=>exact hk.elim
theorem ab.intro (hT:aQ P tt=true) (hm:P.follows .mixedOrders=true) {f:FuncId} {fn:Func} {c:Code} {args:List AV} {R:AV->Prop} (hf:P.funcs[f]? =some fn) (hb:fn.body=some c) (hn:(fn.name== "runtime.NumGoroutine")=false)
  (h:s6 args (fn.ntmps-args.length) fun fr=>ct P tt [] c fr aj.none (GD tt fn.results.toList R)):ab P f args R:=by
 rw[dY]
 refine⟨oc hf hb hn,fun S F vs w hg hs hfr hd hv=>?_⟩
 refine ml (M:=aj.none) (ρ0:=fun _=>none) (D:=[]) (Q:=GD tt fn.results.toList R) hf hb ?_ (fun ℓ b hb=>by cases hb) ⟨hs,hfr,hd,by simp,by simp[aj.none],by simp,hg⟩ (hv.rv _) fun e a' w' ha hd'=>?_
 ·rw[gJ] at h⊢;exact fv hT hm c _ _ _ h
 ·obtain⟨fr,M',S',ρ',hk,h1,h2,h3,h4,h5⟩:=ha
  have fin:(ld tt fr M' fn.results.toList fun us=>ie us M' fun us' _=>R (fN us')/\cg 5 (fN us')=true)->∃v,(results fn a'.tmps).run P w'= .ok v w'/\nJ S F w R (.returned v) w':=by
   intro hk
   obtain⟨vs',us,hK,hvs,hl,hr⟩:=lg hT h3 h4 _ _ hk
   obtain⟨us',M2,S2,⟨hR,hp⟩,hle,hvs2,hM2⟩:=gh _ _ _ _ _ hK hvs h3
   exact⟨_,jv hr,_,_,S2,rfl,hR,ai.le_trans h1 hle,hM2.sw,hM2.fw,hM2.sf,kX 5 hp (ob hvs2),h5⟩
  cases e with
  |normal=>exact⟨by simp,fin hk⟩
  |ret=>exact⟨by simp,fin hk⟩
  |exit i=>exact hk.elim
end
end
section
section
variable {M:aj} {P:Program}
theorem xz (ℓ:Nat) (B:bP) (M:aj):fq [(ℓ,B)] M=M.set ℓ B:=by
 funext x
 simp only[fq,aj.ofL,aj.set]
 by_cases h:x=ℓ
 ·subst h;simp
 ·have h1:Nat.beq ℓ x=false:=by rw[Bool.eq_false_iff];intro hh;exact h (Nat.eq_of_beq_eq_true hh).symm
  have h2:Nat.beq x ℓ=false:=by rw[Bool.eq_false_iff];intro hh;exact h (Nat.eq_of_beq_eq_true hh)
  simp[h1,h2]
def newRow (n sz:Nat) (B:bP):AV->aj->Prop:=fun u M=>∃ℓ0,u= .row ℓ0 n sz/\mb [] 1 (M ℓ0) B
theorem am.fresh {f:FuncId} {args:List AV} {K:AV->aj->Prop} {n sz:Nat} {t:TypeId} {α:Type} {d:α} {enc:α->List AV} {l:List α} (ℓ:Nat)
  (h:am P f args (aj.ofL []) (fun u M=>∃ℓ0,u= .row ℓ0 n sz/\M ℓ0=some (.row t d enc l))) (hf:(M ℓ).isNone=true) (ha:hZ [] 400 args args)
  (hk:K (.row ℓ n sz) (M.set ℓ (.row t d enc l))):am P f args M K:=by
 refine am.call [] [] 400 rfl trivial ha h ?_
 rintro u M' ⟨ℓ0,rfl,e⟩
 refine⟨[(ℓ, .old ℓ0)],[(ℓ, .row t d enc l)], .row ℓ n sz,?_,?_,?_,?_⟩
 ·simp[ia,ib,iE,kY,sM,mc,aj.ofL,hf]
 ·simp[dc,aG,mb,e]
 ·simp[jn,aG]
 ·rw[xz];exact hk
theorem mm {f:FuncId} {args:List AV} {K:AV->aj->Prop} {R:AV->aj->Prop} (n:Nat) (lb:cR) (L2:List (Nat×bP)) (u':AV) (h:am P f args (aj.ofL []) R) (ha:hZ [] n args args)
  (hb:(ia lb L2&&ib L2 lb&&sM [] lb&&mc [] lb M)=true) (hf:L2.all (fun p=>(M p.1).isNone)=true) (hr:∀u M',R u M'->dc lb n M' L2/\jn lb n u u') (hk:K u' (fq L2 M)):i9 P f args M K:=
 ⟨R,n,lb,L2,u',h,ha,hb,hf,hr,hk⟩
theorem am.news {f:FuncId} {args:List AV} {K:AV->aj->Prop} {R:AV->aj->Prop} (n:Nat) (lb:cR) (L2:List (Nat×bP)) (u':AV) (h:am P f args (aj.ofL []) R) (ha:hZ [] n args args)
  (hb:(ia lb L2&&ib L2 lb&&sM [] lb&&mc [] lb M)=true) (hr:∀u M',R u M'->dc lb n M' L2/\jn lb n u u') (hk:K u' (fq L2 M)):am P f args M K:=
 am.call [] [] n rfl trivial ha h fun u M' hR=>⟨lb,L2,u',hb,(hr u M' hR).1,(hr u M' hR).2,hk⟩
end
end
section
def q9:List Oper->List Nat->List Nat
 |[],r=>r
 |o::l,r=>match o.dst with
  |some d=>d::q9 l r
  |none=>q9 l r
def ki:Code->List Nat->List Nat
 | .region _ ops _,r=>q9 ops.toList r
 | .seq a b,r=>ki a (ki b r)
 | .cond _ a b,r=>ki a (ki b r)
 | .block _ a,r=>ki a r
 | .loop a,r=>ki a r
 | .rangeFunc _ ps a b,r=>ps.toList++ki a (ki b r)
 | .scope a,r=>ki a r
 |_,r=>r
def q':List Nat->(List Nat->Prop)->Prop
 |[],k=>k []
 |n::l,k=>q' l fun l'=>k (n::l')
theorem p7:∀(l:List Nat) (k:List Nat->Prop),q' l k=k l
 |[],_=>rfl
 |n::l,k=>by rw[q',p7 l]
def GE:List Nat->Nat->Bool
 |[],_=>false
 |n::l,i=>match Nat.beq n i with|true=>true|false=>GE l i
def p8:List AV->Nat->List Nat->(List AV->Prop)->Prop
 |[],_,_,k=>k []
 |u::fr,i,ms,k=>match GE ms i with
  |true=>p8 fr (Nat.succ i) ms fun r=>k (.top::r)
  |false=>match u with
   | .tup _=>p8 fr (Nat.succ i) ms fun r=>k (.top::r)
   |u=>p8 fr (Nat.succ i) ms fun r=>k (u::r)
theorem lh:∀(fr:List AV) (i:Nat) (ms:List Nat) (k:List AV->Prop),p8 fr i ms k->∃fr0,k fr0
 |[],_,_,k,h=>⟨[],h⟩
 |u::fr,i,ms,k,h=>by
  unfold p8 at h
  split at h
  ·obtain⟨r,hr⟩:=lh fr _ _ _ h;exact⟨_,hr⟩
  ·split at h
   ·obtain⟨r,hr⟩:=lh fr _ _ _ h;exact⟨_,hr⟩
   ·obtain⟨r,hr⟩:=lh fr _ _ _ h;exact⟨_,hr⟩
def s7:List AV->List (Nat×AV)->List AV
 |fr,[]=>fr
 |fr,(i,u)::us=>s7 (fr.set i u) us
def wh:List AV->List (Nat×AV)->(List AV->Prop)->Prop
 |fr,[],k=>k fr
 |fr,(i,u)::us,k=>j8 fr i u fun fr'=>wh fr' us k
theorem s8:∀(us:List (Nat×AV)) (fr:List AV) (k:List AV->Prop),wh fr us k=k (s7 fr us)
 |[],_,_=>rfl
 |(i,u)::us,fr,k=>by rw[wh,qY,s8 us];rfl
def mn (L:List (Nat×bP)):cR:=L.map fun p=>(p.1, .old p.1)
theorem aR.id_ {D:List Nat} {fr fr':List AV} {M:aj} {L:List (Nat×bP)} (n:Nat) (hs:(ia (mn L) L&&ib L (mn L)&&pQ (mn L) D)=true) (hm:dc (mn L) n M L) (hf:hZ (mn L) n fr fr'):aR D fr M fr' (aj.ofL L):=
 aR.by_ (mn L) L n hs hm hf
theorem sI {D:List Nat} {fr fr':List AV} {M:aj} {L:List (Nat×bP)} (hm:dc (mn L) 400 M L:=by repeat' (first|exact True.intro|exact rfl|(refine And.intro ?_ ?_)|((conv=>whnf);omega)|((conv=>whnf);simp only[List.length_append,List.length_cons,List.length_nil];done)|((conv=>whnf);simp only[List.length_append,List.length_cons,List.length_nil];omega))) (hf:hZ (mn L) 400 fr fr':=by repeat' (first|exact True.intro|exact rfl|(refine And.intro ?_ ?_)|((conv=>whnf);omega)|((conv=>whnf);simp only[List.length_append,List.length_cons,List.length_nil];done)|((conv=>whnf);simp only[List.length_append,List.length_cons,List.length_nil];omega))) (hs:(ia (mn L) L&&ib L (mn L)&&pQ (mn L) D)=true:=by exact rfl):aR D fr M fr' (aj.ofL L):=aR.id_ 400 hs hm hf
theorem am.norm {P:Program} {f:FuncId} {args:List AV} {L0:List (Nat×bP)} {R R':AV->aj->Prop} (n:Nat) (h:am P f args (aj.ofL L0) R)
  (hk:∀u M',R u M'->∃(L:List (Nat×bP)) (u':AV),(ia (mn L) L&&ib L (mn L)&&pQ (mn L) (L0.map (·.1)))=true/\dc (mn L) n M' L/\jn (mn L) n u u'/\R' u' (aj.ofL L)):am P f args (aj.ofL L0) R':=by
 rw[cf] at h⊢
 refine⟨h.1,fun S F ρ vs w hM hv=>(h.2 S F ρ vs w hM hv).mono ?_⟩
 rintro e w' ⟨v,u,M',S',ρ',rfl,hR,hle,hρ,hM',hr,hw⟩
 obtain⟨L,u',hb,hm,ha,hR'⟩:=hk u M' hR
 simp only[Bool.and_eq_true] at hb
 obtain⟨⟨hb1,hb2⟩,hb3⟩:=hb
 refine⟨v,u',_,S',bn (mn L) ρ',rfl,hR',hle,fun ℓ b hb=>?_,hM'.relabel hm hb1 hb2,(iG n).1 u u' v ha hr,hw⟩
 have hd:=hM.dom ℓ b hb
 obtain⟨B,hB⟩:∃B,aj.ofL L0 ℓ=some B:=by
  cases h:aj.ofL L0 ℓ with
  |none=>exact absurd h hd
  |some B=>exact⟨B,rfl⟩
 have hmem:=List.mem_map_of_mem (f:=(·.1)) (gC hB)
 have:=List.all_eq_true.1 hb3 _ hmem
 simp only at this
 split at this
 ·rename_i m hm'
  have:=Nat.eq_of_beq_eq_true this
  subst this
  show bn (mn L) ρ' _=_
  unfold bn
  rw[hm']
  exact hρ _ _ hb
 ·cases this
theorem am.renorm {P:Program} {f:FuncId} {args:List AV} {L0:List (Nat×bP)} {R R':AV->aj->Prop} (n:Nat) (h:am P f args (aj.ofL L0) R)
  (hk:∀u M',R u M'->∃(lm:cR) (L:List (Nat×bP)) (u':AV),(ia lm L&&ib L lm&&pQ lm (L0.map (·.1)))=true/\dc lm n M' L/\jn lm n u u'/\R' u' (aj.ofL L)):am P f args (aj.ofL L0) R':=by
 rw[cf] at h⊢
 refine⟨h.1,fun S F ρ vs w hM hv=>(h.2 S F ρ vs w hM hv).mono ?_⟩
 rintro e w' ⟨v,u,M',S',ρ',rfl,hR,hle,hρ,hM',hr,hw⟩
 obtain⟨lm,L,u',hb,hm,ha,hR'⟩:=hk u M' hR
 simp only[Bool.and_eq_true] at hb
 obtain⟨⟨hb1,hb2⟩,hb3⟩:=hb
 refine⟨v,u',_,S',bn lm ρ',rfl,hR',hle,fun ℓ b hb=>?_,hM'.relabel hm hb1 hb2,(iG n).1 u u' v ha hr,hw⟩
 have hd:=hM.dom ℓ b hb
 obtain⟨B,hB⟩:∃B,aj.ofL L0 ℓ=some B:=by
  cases h:aj.ofL L0 ℓ with
  |none=>exact absurd h hd
  |some B=>exact⟨B,rfl⟩
 have hmem:=List.mem_map_of_mem (f:=(·.1)) (gC hB)
 have:=List.all_eq_true.1 hb3 _ hmem
 simp only at this
 split at this
 ·rename_i m hm'
  have:=Nat.eq_of_beq_eq_true this
  subst this
  show bn lm ρ' _=_
  unfold bn
  rw[hm']
  exact hρ _ _ hb
 ·cases this
section
variable {P:Program} {tt:TT} {D:List Nat}
theorem aF.loopF (hT:aQ P tt=true) (hm:P.follows .mixedOrders=true) {c:Code} {fr:List AV} {M:aj} {Q:ez} {X:Type _} (I:X->Prop) (us:X->List (Nat×AV)) (L:X->List (Nat×bP)) (μ:X->Nat) (x0:X) (hi:I x0)
  (h:q' (ki c []) fun ms=>p8 fr 0 ms fun fr0=>aR D fr M (s7 fr0 (us x0)) (aj.ofL (L x0))/\
   ∀x,I x->wh fr0 (us x) fun fr1=>ct P tt D c fr1 (aj.ofL (L x)) (s5 D I (fun x=>s7 fr0 (us x)) (fun x=>aj.ofL (L x)) μ x Q)):aF P D (.loop c) fr M Q:=by
 rw[p7] at h
 obtain⟨fr0,h0,h⟩:=lh _ _ _ _ h
 refine aF.loop I (fun x=>s7 fr0 (us x)) (fun x=>aj.ofL (L x)) μ x0 hi h0 fun x hx=>?_
 have:=h x hx
 rw[s8] at this
 exact fv hT hm _ _ _ _ this
end
end
section
theorem am.dcall {P:Program} {M:aj} {f:FuncId} {args:List AV} {p:Prop} {i:Decidable p} {K:AV->aj->Prop} {n:Nat} (h:ab P f args (fun u=>u= .bool (@decide p i))) (hp:args.all (cg n)=true) (ht:p->K (.bool true) M) (hf:¬p->K (.bool false) M):am P f args M K:=
 am.of_pure (n:=n) h hp fun u hu=>by
  subst hu
  by_cases hh:p
  ·rw[decide_eq_true hh];exact ht hh
  ·rw[decide_eq_false hh];exact hf hh
theorem GF {P:Program} {f:FuncId} {args:List AV} {p:Prop} {i:Decidable p} {K:AV->Prop} (n:Nat) (h:ab P f args (fun u=>u= .bool (@decide p i))) (hp:args.all (cg n)=true) (ht:p->K (.bool true)) (hf:¬p->K (.bool false)):nL P f args K:=
 ze n h hp ⟨_,rfl⟩ fun u hu=>by
  subst hu
  by_cases hh:p
  ·rw[decide_eq_true hh];exact ht hh
  ·rw[decide_eq_false hh];exact hf hh
theorem av {p:Prop} {i:Decidable p} (h:p):AV.bool true= .bool (@decide p i):=by rw[decide_eq_true h]
theorem al {p:Prop} {i:Decidable p} (h:¬p):AV.bool false= .bool (@decide p i):=by rw[decide_eq_false h]
def uP (M:aj):AV->AV
 | .row ℓ n sz=>match M ℓ with
  |some (.row _ d enc l)=> .sl d enc l
  |some (.gone d enc l)=> .sl d enc l
  |_=> .row ℓ n sz
 | .ptr ℓ o=>match M ℓ with
  |some (.box _ cells)=>match bJ cells with
   |true=> .pd (cells.drop o)
   |false=> .ptr ℓ o
  |_=> .ptr ℓ o
 |u=>u
def Cr (M:aj):AV->AV
 | .agg cs=> .agg (cs.map (uP M))
 | .fn f cs=> .fn f (cs.map (uP M))
 |u=>uP M u
def D8:bP->Bool
 | .row _ _ _ _=>true
 | .box _ _=>true
 | .hdr _ _ _=>true
 |_=>false
def s9:AV->Bool
 | .int _ _| .bool _| .str _| .nilsl| .top=>true
 |_=>false
def zq:AV->Bool
 | .tup cs=>cs.all s9
 | .agg cs=>cs.all s9
 |u=>s9 u
section
variable {P:Program} {S F:ai} {ρ:ax} {M:aj} {w:World}
def li (ρ:ax) (M:aj) (k:Nat):Prop:=∃ℓ B b,M ℓ=some B/\ρ ℓ=some b/\D8 B=true/\B.live b/\b.blk=k
noncomputable def dZ (S:ai) (ρ:ax) (M:aj) (w:World):ai:=fun k=>open Classical in if li ρ M k then w.heap[k]? else S k
theorem mo (hM:az S F ρ M w) {k:Nat} (h:li ρ M k):S k=none/\F k=none/\k<w.heap.size:=by
 obtain⟨ℓ,B,b,h1,h2,_,h3,rfl⟩:=h
 obtain⟨b',hb',hr⟩:=hM.blk _ _ h1
 rw[h2] at hb';cases hb'
 exact⟨(hr.off h3).1,(hr.off h3).2,hr.lt h3⟩
theorem ta (hM:az S F ρ M w):S.le (dZ S ρ M w):=by
 intro k o hk
 unfold dZ
 split
 ·rename_i h
  rw[(mo hM h).1] at hk;cases hk
 ·exact hk
theorem zr (hM:az S F ρ M w):(dZ S ρ M w).inW w:=by
 intro k o hk
 unfold dZ at hk
 split at hk
 ·exact hk
 ·exact hM.sw k o hk
theorem ra (hM:az S F ρ M w) {v:Value} {u:AV} (h:RV S ρ v u):RV (dZ S ρ M w) ρ v (uP M u):=by
 have hle:=ta (S:=S) (F:=F) hM
 unfold uP
 split
 ·rename_i ℓ n sz
  split
  ·rename_i t α d enc l hl
   obtain⟨b,hb,hn,hs,hz,rfl⟩:=h.row_inv
   obtain⟨b',hb',hlen,hszs,hcase⟩:=hM.blk _ _ hl
   rw[hb] at hb';cases hb'
   rcases hcase with ⟨hnil,rfl,hcap⟩|⟨hnil,hcap,vs,hheap,hsize,hcell,hS,hF⟩
   ·have e:b.hdr= .slice none 0 0:=by simp only[dz.hdr,hnil,if_true,hcap];simp at hlen;rw[hlen]
    rw[e]
    exact .p (.sl d enc [] none 0 1 (fun _ _=> .int .i64 0) (by simp) (by simp) (by simp) (fun i j hi=>by simp at hi) (by simp) (fun i a j u hi=>by simp at hi))
   ·have e:b.hdr= .slice (some ⟨b.blk,0,none⟩) l.length b.cap:=by simp only[dz.hdr,hnil,hlen];rfl
    rw[e]
    have hl1:dZ S ρ M w b.blk=some (.cells vs t (0,0)):=by
     unfold dZ
     rw[if_pos ⟨ℓ,_,b,hl,hb,rfl,hnil,rfl⟩]
     exact hheap
    refine .p (.sl d enc l (some ⟨b.blk,0,none⟩) b.cap b.sz (fun i j=>vs.getD (i*b.sz+j) undef) hcap (fun a ha=>(hszs a ha).2) (fun a ha=>(hszs a ha).1) (fun i j hi hj=>⟨_,rfl,?_⟩) (by simp) (fun i a j u hi hu=>?_))
    ·rw[Addr.add_mk]
     have:i*b.sz+j<vs.size:=by
      rw[hsize]
      have:(i+1)*b.sz<=b.cap*b.sz:=Nat.mul_le_mul_right _ (by omega)
      rw[Nat.add_mul] at this
      omega
     unfold ai.cell
     simp only[hl1]
     simp[this]
    ·obtain⟨v,hv,hvr⟩:=hcell i a j u hi hu
     have:vs.getD (i*b.sz+j) undef=v:=by simp[hv]
     rw[this]
     exact hvr.mono hle
  ·rename_i α d enc l hl
   obtain⟨b,hb,hn,hs,hz,rfl⟩:=h.row_inv
   obtain⟨b',hb',hlen,hr⟩:=hM.blk _ _ hl
   rw[hb] at hb';cases hb'
   exact .p (hr.mono hle)
  ·exact h.mono hle (ax.le_refl _)
 ·rename_i ℓ o
  split
  ·rename_i t cells hl
   split
   ·rename_i hp
    obtain⟨b,hb,rfl⟩:=h.ptr_inv
    obtain⟨b',hb',vs,hheap,hvs,hS,hF⟩:=hM.blk _ _ hl
    rw[hb] at hb';cases hb'
    have hps:=(dN hp hvs).1
    have hl1:dZ S ρ M w b.blk=some (.cells vs t (0,0)):=by
     unfold dZ
     rw[if_pos ⟨ℓ,_,b,hl,hb,rfl,trivial,rfl⟩]
     exact hheap
    refine .p (.pd _ _ (fun j=>vs.getD (o+j) undef) (fun j hj=>?_) (fun j u hu=>?_))
    ·rw[Addr.add_mk]
     have hl2:=hps.1
     have:o+j<vs.size:=by simp at hj hl2;omega
     unfold ai.cell
     simp only[hl1]
     simp[this]
    ·rw[List.getElem?_drop] at hu
     obtain⟨v,hv,hvr⟩:=hps.2 _ u hu
     have hv':vs[o+j]? =some v:=by simpa using hv
     have:vs.getD (o+j) undef=v:=by simp[hv']
     rw[this]
     exact hvr.mono hle
   ·exact h.mono hle (ax.le_refl _)
  ·exact h.mono hle (ax.le_refl _)
 ·exact h.mono hle (ax.le_refl _)
theorem Cs (hM:az S F ρ M w) {v:Value} {u:AV} (h:RV S ρ v u):RV (dZ S ρ M w) ρ v (Cr M u):=by
 unfold Cr
 split
 ·rename_i cs
  obtain⟨vs,rfl,hr⟩:=h.agg_inv
  have:aW (dZ S ρ M w) ρ vs.toList (cs.map (uP M)):=⟨by simpa using hr.1,fun i u hu=>by
   rw[List.getElem?_map] at hu
   obtain⟨u0,h0,rfl⟩:=Option.map_eq_some_iff.1 hu
   obtain⟨v,hv,hvr⟩:=hr.2 i u0 h0
   exact⟨v,hv,ra hM hvr⟩⟩
  have:=RV.agg_mk this
  simpa using this
 ·rename_i f cs
  obtain⟨vs,rfl,hr⟩:=h.fn_inv
  have:aW (dZ S ρ M w) ρ vs.toList (cs.map (uP M)):=⟨by simpa using hr.1,fun i u hu=>by
   rw[List.getElem?_map] at hu
   obtain⟨u0,h0,rfl⟩:=Option.map_eq_some_iff.1 hu
   obtain⟨v,hv,hvr⟩:=hr.2 i u0 h0
   exact⟨v,hv,ra hM hvr⟩⟩
  have:=RV.fn_mk f this
  simpa using this
 ·exact ra hM h
theorem od {S S':ai} {v:Value} {u:AV} (hf:s9 u=true) (h:RP S v u):RP S' v u:=by
 cases h<;>first|(simp[s9] at hf;done)|constructor
theorem zt {S S':ai} {v:Value} {u:AV} (hf:zq u=true) (h:RP S v u):RP S' v u:=by
 cases u with
 |tup cs=>
  cases h with
  |tup _ vs hs vals he hv=>exact .tup cs vs hs vals he fun j u hu=>od (List.all_eq_true.1 hf u (List.mem_of_getElem? hu)) (hv j u hu)
 |agg cs=>
  cases h with
  |agg _ vs hs vals he hv=>exact .agg cs vs hs vals he fun j u hu=>od (List.all_eq_true.1 hf u (List.mem_of_getElem? hu)) (hv j u hu)
 |_=>exact od hf h
noncomputable def mL (S':ai) (ρ:ax) (M:aj):ai:=fun k=>open Classical in if li ρ M k then none else S' k
theorem p9 {S':ai} {k:Nat} (h:li ρ M k):mL S' ρ M k=none:=by unfold mL;rw[if_pos h]
theorem oe {S':ai} {k:Nat} (h:¬li ρ M k):mL S' ρ M k=S' k:=by unfold mL;rw[if_neg h]
theorem am.borrowG {f:FuncId} {args args':List AV} {R:AV->Prop} {K:AV->aj->Prop} (h:ab P f args' R) (hconv:∀S F ρ w vs,az S F ρ M w->aW S ρ vs args->f9 (dZ S ρ M w) vs args') (hfl:∀u,R u->zq u=true) (hk:∀u,R u->K u M):am P f args M K:=by
 rw[cf]
 rw[dY] at h
 refine⟨h.1,?_⟩
 intro S F ρ vs w hM hv
 have hle:=ta (S:=S) (F:=F) hM
 let own:Nat->Prop:=fun ℓ=>∃B,M ℓ=some B/\D8 B=true
 have hargs:=hconv S F ρ w vs hM hv
 have hsf:∀k,dZ S ρ M w k=none\/eo F ρ M w own k=none:=by
  intro k
  by_cases hr:li ρ M k
  ·right
   obtain⟨ℓ,B,b,h1,h2,h3,h4,rfl⟩:=hr
   unfold eo
   rw[if_neg]
   ·exact(mo hM ⟨ℓ,B,b,h1,h2,h3,h4,rfl⟩).2.1
   ·rintro⟨y,C,c,g1,g2,g3,g4,g5⟩
    refine hM.inj y ℓ C _ c b g1 h1 g2 h2 g3 h4 (fun e=>?_) g4
    subst e
    exact g5 ⟨B,h1,h3⟩
  ·have e:dZ S ρ M w k=S k:=by unfold dZ;rw[if_neg hr]
   rw[e]
   exact nK hM k
 refine(h.2 (dZ S ρ M w) (eo F ρ M w own) vs w (hM.gl.mono hle) (zr hM) (ma hM) hsf hargs).mono ?_
 rintro e w' ⟨v,u,S',rfl,hR,hle',hs,hf,hd,hr,hw⟩
 have hS2:S.le (mL S' ρ M):=by
  intro k o hk
  by_cases h:li ρ M k
  ·rw[(mo hM h).1] at hk;cases hk
  ·rw[oe h];exact hle' k o (hle k o hk)
 have hS2':∀k o,mL S' ρ M k=some o->S' k=some o:=by
  intro k o hk
  by_cases h:li ρ M k
  ·rw[p9 h] at hk;cases hk
  ·rw[oe h] at hk;exact hk
 refine⟨v,u,M,mL S' ρ M,ρ,rfl,hk u hR,hS2,ax.le_refl _,⟨fun k o hk=>hs k o (hS2' k o hk),fun k o hk=>hf k o (jm hM k o hk),fun k=>?_,hM.dom,fun ℓ B hB=>?_,hM.inj,hM.gl.mono hS2⟩, .p (zt (hfl u hR) hr),hw⟩
 ·cases hk2:mL S' ρ M k with
  |none=>exact .inl rfl
  |some o=>
   right
   rcases hd k with h|h
   ·rw[hS2' k o hk2] at h;cases h
   ·cases hk:F k with
    |none=>rfl
    |some o'=>rw[jm hM k o' hk] at h;cases h
 ·obtain⟨b,hb,hrB⟩:=hM.blk _ _ hB
  refine⟨b,hb,hrB.keep hS2 (ax.le_refl _) fun hl=>?_⟩
  have hlt:=hrB.lt hl
  obtain⟨o,ho⟩:∃o,w.heap[b.blk]? =some o:=⟨_,Array.getElem?_eq_getElem hlt⟩
  have hSb:=(hrB.off hl).1
  by_cases hrow:li ρ M b.blk
  ·have e1:dZ S ρ M w b.blk=some o:=by unfold dZ;rw[if_pos hrow];exact ho
   refine⟨by rw[hs _ o (hle' _ o e1),ho],?_⟩
   rw[hSb,p9 hrow]
  ·have hno:¬own ℓ:=by
    rintro⟨B',h1,h2⟩
    rw[hB] at h1
    cases h1
    exact hrow ⟨ℓ,B,b,hB,hb,h2,hl,rfl⟩
   have hk:=kw (F:=F) (w:=w) (own:=own) hB hb hl hno
   refine⟨by rw[hf b.blk o (hk.trans ho),ho],?_⟩
   rw[hSb,oe hrow]
   rcases hd b.blk with h|h
   ·exact h
   ·rw[hk,ho] at h;cases h
theorem am.borrow {f:FuncId} {args:List AV} {R:AV->Prop} {K:AV->aj->Prop} {n:Nat} (h:ab P f (args.map (Cr M)) R) (hp:(args.map (Cr M)).all (cg n)=true) (hfl:∀u,R u->zq u=true) (hk:∀u,R u->K u M):am P f args M K:=
 am.borrowG h (fun S F ρ w vs hM hv=>l9 hp (S:=dZ S ρ M w) (ρ:=ρ) ⟨by simpa using hv.1,fun i u hu=>by
  rw[List.getElem?_map] at hu
  obtain⟨u0,h0,rfl⟩:=Option.map_eq_some_iff.1 hu
  obtain⟨v,hv1,hvr⟩:=hv.2 i u0 h0
  exact⟨v,hv1,Cs hM hvr⟩⟩) hfl hk
theorem aR.leak {D:List Nat} {fr fr':List AV} {M':aj} (ℓ:Nat) {t:TypeId} {α:Type} {d:α} {enc:α->List AV} {l:List α} (hl:M ℓ=some (.row t d enc l))
  (h:aR D (fr.map (iH ℓ (.sl d enc l))) (M.set ℓ (.gone d enc l)) fr' M'):aR D fr M fr' M':=by
 rw[m5] at*
 intro S F ρ0 ρ a w h0 h1 hM hF
 obtain⟨S1,b,hle,hb,hM1,_⟩:=hM.leak hl
 obtain⟨S2,ρ2,k1,k2,k3,k4⟩:=h S1 F ρ0 ρ a w h0 h1 hM1 ⟨⟨by simpa using hF.1.1,fun i u hu=>by
  rw[List.getElem?_map] at hu
  obtain⟨u0,hu0,rfl⟩:=Option.map_eq_some_iff.1 hu
  obtain⟨v,e,hr⟩:=hF.1.2 i u0 hu0
  exact⟨v,e,iI hM1 (aj.set_eq _ _ _) (hr.mono hle (ax.le_refl _))⟩⟩,hF.2⟩
 exact⟨S2,ρ2,ai.le_trans hle k1,k2,k3,k4⟩
end
theorem lI {p:Prop} (h:p:=by simp only[List.length_cons,List.length_nil];omega):p:=h
theorem nI {c k:Prop} (h':k) (h:c:=by first|omega|(dsimp only;omega)):fJ c k:=cz h h'
theorem aI {c:Prop} {n:Int} {K:Int->Prop} (h':K n) (hc:c:=by exact trivial) (h:-9223372036854775808<=n/\n<=9223372036854775807:=by omega):jh c .i64 n K:=Gr hc h h'
theorem uI {c:Prop} {n:Int} {K:Int->Prop} (h':K n) (hc:c:=by exact trivial) (h:0<=n/\n<=18446744073709551615:=by omega):jh c .u64 n K:=Iv hc h h'
theorem vI {c:Prop} {n:Int} {K:Int->Prop} (h':K n) (hc:c:=by exact trivial) (h:0<=n/\n<=255:=by omega):jh c .u8 n K:=Iw hc h h'
theorem tI {p:Prop} {i:Decidable p} {k:Bool->Prop} (h':k true) (h:p:=by omega):sr p i k:=eI h h'
theorem fI {p:Prop} {i:Decidable p} {k:Bool->Prop} (h':k false) (h:¬p:=by omega):sr p i k:=iA h h'
theorem dI {P:Program} {tt:TT} {ops:List Oper} {fr:List AV} {M:aj} {K:List AV->aj->Prop} (h:df P tt (some .any) ops ops fr M K) (hB:fL tt .any ops=true:=by decide+kernel):fM P tt ops fr M K:=zo hB h
theorem dR {P:Program} {tt:TT} {ops:List Oper} {fr:List AV} {M:aj} {K:List AV->aj->Prop} (h:df P tt (some .rows) ops ops fr M K) (hB:fL tt .rows ops=true:=by decide+kernel):fM P tt ops fr M K:=Gz hB h
theorem dP {P:Program} {tt:TT} {ops:List Oper} {fr:List AV} {M:aj} {K:List AV->aj->Prop} (h:df P tt (some .pers) ops ops fr M K) (hB:fL tt .pers ops=true:=by decide+kernel):fM P tt ops fr M K:=GB hB h
theorem pI {α β:Type} {enc:α->List AV} {l:List α} {enc':β->List AV} {l':List β} {bytes:Nat} {K:List α->Prop} (l'':List α) (h:l''.map enc=l'.map enc') (hk:K l'')
  (hb:(l.length+l'.length)*bytes<=140737488355328:=by first|omega|(dsimp only;omega)|(simp only[List.length_cons,List.length_nil,List.length_append];omega)):uC enc l enc' l' bytes K:=bQ l'' h hb hk
theorem at_ {g k:Prop} (h':k) (h:k->g:=by first|exact fun h=>nI h|exact fun h=>aI h|exact fun h=>Iv trivial (by omega) h|exact fun h=>Iw trivial (by omega) h|exact fun h=>dI h|exact fun h=>dR h|exact fun h=>dP h|exact fun h=>ak rfl h|exact fun h=>pI _ rfl h|exact fun h=>ap _ rfl h|exact fun h=>tI h|exact fun h=>fI h):g:=h h'
theorem oP {P:Program} {M:aj} {f:FuncId} {args:List AV} {v:AV} {K:AV->aj->Prop} (h:ab P f args (fun u=>u=v)) (hk:K v M) (hp:args.all (cg 5)=true:=by exact rfl):am P f args M K:=
 am.of_pure (n:=5) h hp fun u hu=>by subst hu;exact hk
theorem oC {P:Program} {f:FuncId} {args:List AV} {v:AV} {K:AV->Prop} (h:ab P f args (fun u=>u=v)) (hk:K v) (hp:args.all (cg 5)=true:=by exact rfl):nL P f args K:=
 ze 5 h hp ⟨_,rfl⟩ fun u hu=>by subst hu;exact hk
theorem dC {P:Program} {M:aj} {f:FuncId} {args:List AV} {p:Prop} {i:Decidable p} {K:AV->aj->Prop} (h:ab P f args (fun u=>u= .bool (@decide p i))) (ht:p->K (.bool true) M) (hf:¬p->K (.bool false) M) (hp:args.all (cg 5)=true:=by exact rfl):am P f args M K:=
 am.dcall (n:=5) h hp ht hf
theorem dD {P:Program} {f:FuncId} {args:List AV} {p:Prop} {i:Decidable p} {K:AV->Prop} (h:ab P f args (fun u=>u= .bool (@decide p i))) (ht:p->K (.bool true)) (hf:¬p->K (.bool false)) (hp:args.all (cg 5)=true:=by exact rfl):nL P f args K:=
 GF 5 h hp ht hf
end
end Go.Proofs.YtekmminpfhacpaaGreatDoor
