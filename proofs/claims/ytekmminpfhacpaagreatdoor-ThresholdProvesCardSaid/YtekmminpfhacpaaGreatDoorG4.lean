import Derived.Test.YtekmminpfhacpaaGreatDoorG3
import Derived.Scope
set_option linter.unusedVariables false
set_option linter.unusedSimpArgs false
namespace Go.Proofs.YtekmminpfhacpaaGreatDoor
section
inductive PD
 |normal
 |exit (id:Nat)
 |ret
def I':Exit->Option PD
 | .normal=>some .normal
 | .exit id=>some (.exit id)
 | .ret=>some .ret
 |_=>none
abbrev dY:=PD->List AV->ag->Prop
def te (ρ:aE) (D:List Nat):Prop:=∀ℓ b,ρ ℓ=some b->ℓ∈D
structure aJ (P:Program) (D:List Nat) (c:Code) (fr:List AV) (M:ag) (Q:dY):Prop where
 out:∀S F ρ0 ρ a w,te ρ0 D->aE.le ρ0 ρ->aD S F ρ M w->fJ S ρ a fr->c.wp P (fun e a' w'=>∃x,I' e=some x/\dG S F ρ0 w (Q x) a' w') a w
theorem dn {P:Program} {D:List Nat} {c:Code} {fr:List AV} {M:ag} {Q:dY}:aJ P D c fr M Q↔(∀S F ρ0 ρ a w,te ρ0 D->aE.le ρ0 ρ->aD S F ρ M w->fJ S ρ a fr->c.wp P (fun e a' w'=>∃x,I' e=some x/\dG S F ρ0 w (Q x) a' w') a w):=⟨fun h=>h.out,fun h=>⟨h⟩⟩
structure gQ (P:Program) (tt:TT) (ops:List Oper) (fr:List AV) (M:ag) (K:List AV->ag->Prop):Prop where
 out:(∃r,iy tt r ops=true/\cF P tt (some r) ops ops fr M K)\/(∃r ds,ld tt r ds ops=true/\vv P tt r ds ops ops fr M K)\/∃d,br P tt d ops K ops.length [] fr M
theorem ep {P:Program} {tt:TT} {ops:List Oper} {fr:List AV} {M:ag} {K:List AV->ag->Prop}:gQ P tt ops fr M K↔((∃r,iy tt r ops=true/\cF P tt (some r) ops ops fr M K)\/(∃r ds,ld tt r ds ops=true/\vv P tt r ds ops ops fr M K)\/∃d,br P tt d ops K ops.length [] fr M):=⟨fun h=>h.out,fun h=>⟨h⟩⟩
theorem F3 {P:Program} {tt:TT} {ops:List Oper} {fr:List AV} {M:ag} {K:List AV->ag->Prop} (hB:iy tt .any ops=true) (h:cF P tt (some .any) ops ops fr M K):gQ P tt ops fr M K:=by
 rw[ep];exact .inl ⟨_,hB,h⟩
theorem NR {P:Program} {tt:TT} {ops:List Oper} {fr:List AV} {M:ag} {K:List AV->ag->Prop} (hB:iy tt .rows ops=true) (h:cF P tt (some .rows) ops ops fr M K):gQ P tt ops fr M K:=by
 rw[ep];exact .inl ⟨_,hB,h⟩
theorem iV {P:Program} {tt:TT} {ops:List Oper} {fr:List AV} {M:ag} {K:List AV->ag->Prop} (hB:iy tt .flat ops=true) (h:cF P tt (some .flat) ops ops fr M K):gQ P tt ops fr M K:=by
 rw[ep];exact .inl ⟨_,hB,h⟩
theorem eI {P:Program} {tt:TT} {ops:List Oper} {fr:List AV} {M:ag} {K:List AV->ag->Prop} (hB:iy tt .own ops=true) (h:cF P tt (some .own) ops ops fr M K):gQ P tt ops fr M K:=by
 rw[ep];exact .inl ⟨_,hB,h⟩
theorem Cw {P:Program} {tt:TT} {ops:List Oper} {fr:List AV} {M:ag} {K:List AV->ag->Prop} (as:List (Nat×Nat)) (hB:iy tt (.boxes as) ops=true) (h:cF P tt (some (.boxes as)) ops ops fr M K):gQ P tt ops fr M K:=by
 rw[ep];exact .inl ⟨_,hB,h⟩
theorem rc {P:Program} {tt:TT} {ops:List Oper} {fr:List AV} {M:ag} {K:List AV->ag->Prop} (r:aL) (ds:List Nat) (hB:ld tt r ds ops=true) (h:vv P tt r ds ops ops fr M K):gQ P tt ops fr M K:=by
 rw[ep];exact .inr (.inl ⟨_,_,hB,h⟩)
theorem nU {P:Program} {tt:TT} {ops:List Oper} {fr:List AV} {M:ag} {K:List AV->ag->Prop} (h:br P tt (some .own) ops K ops.length [] fr M):gQ P tt ops fr M K:=by
 rw[ep];exact .inr (.inr ⟨_,h⟩)
theorem NS {P:Program} {tt:TT} {ops:List Oper} {fr:List AV} {M:ag} {K:List AV->ag->Prop} (h:br P tt none ops K ops.length [] fr M):gQ P tt ops fr M K:=by
 rw[ep];exact .inr (.inr ⟨_,h⟩)
theorem NT {P:Program} {tt:TT} {ops:List Oper} {fr:List AV} {M:ag} {K:List AV->ag->Prop} (hB:iy tt .pers ops=true) (h:cF P tt (some .pers) ops ops fr M K):gQ P tt ops fr M K:=by
 rw[ep];exact .inl ⟨_,hB,h⟩
def bX (P:Program) (tt:TT) (D:List Nat):Code->List AV->ag->dY->Prop
 | .skip,fr,M,Q=>Q .normal fr M
 | .region _ ops draw,fr,M,Q=>match draw with
  |false=>cF P tt none ops.toList ops.toList fr M (Q .normal)
  |true=>gQ P tt ops.toList fr M (Q .normal)
 | .seq a b,fr,M,Q=>bX P tt D a fr M fun e fr' M'=>match e with
  | .normal=>bX P tt D b fr' M' Q
  | .exit i=>Q (.exit i) fr' M'
  | .ret=>Q .ret fr' M'
 | .cond c x y,fr,M,Q=>Pn fr c fun u=>match u with
  | .bool true=>bX P tt D x fr M Q
  | .bool false=>bX P tt D y fr M Q
  |_=>False
 | .block id c,fr,M,Q=>bX P tt D c fr M fun e fr' M'=>match e with
  | .normal=>Q .normal fr' M'
  | .exit i=>match Nat.beq i id with
   |true=>Q .normal fr' M'
   |false=>Q (.exit i) fr' M'
  | .ret=>Q .ret fr' M'
 | .exit id,fr,M,Q=>Q (.exit id) fr M
 | .ret,fr,M,Q=>Q .ret fr M
 | .loop c,fr,M,Q=>aJ P D (.loop c) fr M Q
 | .rangeFunc f ps as c,fr,M,Q=>aJ P D (.rangeFunc f ps as c) fr M Q
 | .scope c,fr,M,Q=>bX P tt D c fr M Q
 | .label _,fr,M,Q=>Q .normal fr M
 | .goto l,fr,M,Q=>aJ P D (.goto l) fr M Q
 | .refuse s,fr,M,Q=>aJ P D (.refuse s) fr M Q
section
variable {P:Program} {tt:TT} {D:List Nat}
theorem aJ.mono {c:Code} {fr:List AV} {M:ag} {Q Q':dY} (h:aJ P D c fr M Q) (hq:∀e f M,Q e f M->Q' e f M):aJ P D c fr M Q':=by
 simp only[dn] at*
 intro S F ρ0 ρ a w h0 h1 hM hF
 exact wp_mono (h S F ρ0 ρ a w h0 h1 hM hF) fun e a' w' ⟨x,hx,ha⟩=>⟨x,hx,ha.mono fun f M=>hq x f M⟩
theorem js (hT:bn P tt=true) (hm:P.follows .mixedOrders=true):∀(c:Code) (fr:List AV) (M:ag) (Q:dY),bX P tt D c fr M Q->aJ P D c fr M Q:=by
 intro c
 induction c with
 |skip=>
  intro fr M Q h
  rw[dn]
  intro S F ρ0 ρ a w h0 h1 hM hF
  exact wp_skip ⟨.normal,rfl,fr,M,S,ρ,h,ai.le_refl _,h1,hM,hF,eo.refl _⟩
 |region id ops draw=>
  intro fr M Q h
  rw[dn]
  intro S F ρ0 ρ a w h0 h1 hM hF
  simp only[bX] at h
  have hQ:∀a' w',dG S F ρ w (Q .normal) a' w'->∃x,I' .normal=some x/\dG S F ρ0 w (Q x) a' w':=fun a' w' ⟨f,M',S',ρ',k,k1,k2,k3⟩=>⟨.normal,rfl,f,M',S',ρ',k,k1,aE.le_trans h1 k2,k3⟩
  have e:ops=ops.toList.toArray:=by simp
  cases draw with
  |false=>
   rw[e]
   exact wp_region_lit (Cr hT ops.toList S ρ w a fr M h hM hF hQ)
  |true=>
   simp only at h
   rw[ep] at h
   rw[e]
   rcases h with ⟨r,h1,h2⟩|⟨r,ds,h1,h2⟩|⟨d,h2⟩
   ·exact yM hT hm h1 h2 hM hF hQ
   ·exact wR hT hm h1 h2 hM hF hQ
   ·exact wS hT hm h2 hM hF hQ
 |seq x y ihx ihy=>
  intro fr M Q h
  have hx:=ihx fr M _ h
  simp only[dn] at*
  intro S F ρ0 ρ a w h0 h1 hM hF
  refine wp_seq (wp_mono (hx S F ρ0 ρ a w h0 h1 hM hF) ?_)
  rintro e a' w' ⟨ex,he,f,M',S',ρ',k,k1,k2,k3,k4,k5⟩
  cases e with
  |normal=>
   cases he
   refine wp_mono (ihy f M' Q k S' F ρ0 ρ' a' w' h0 k2 k3 k4) ?_
   rintro e2 a2 w2 ⟨ex2,he2,ha⟩
   exact⟨ex2,he2,ha.trans k1 (aE.le_refl _) k5⟩
  |exit i=>cases he;exact⟨_,rfl,f,M',S',ρ',k,k1,k2,k3,k4,k5⟩
  |ret=>cases he;exact⟨_,rfl,f,M',S',ρ',k,k1,k2,k3,k4,k5⟩
  |goto l=>cases he
  |panic l=>cases he
  |outgrown=>cases he
 |cond c x y ihx ihy=>
  intro fr M Q h
  simp only[bX,wN] at h
  rw[dn]
  intro S F ρ0 ρ a w h0 h1 hM hF
  have hc:=hF.eval c
  split at h
  ·rename_i hb
   rw[hb] at hc
   have:=ihx fr M Q h
   rw[dn] at this
   exact wp_cond_true hc.bool_inv (this S F ρ0 ρ a w h0 h1 hM hF)
  ·rename_i hb
   rw[hb] at hc
   have:=ihy fr M Q h
   rw[dn] at this
   exact wp_cond_false hc.bool_inv (this S F ρ0 ρ a w h0 h1 hM hF)
  ·exact h.elim
 |block id c ih=>
  intro fr M Q h
  have hx:=ih fr M _ h
  simp only[dn] at*
  intro S F ρ0 ρ a w h0 h1 hM hF
  refine wp_block (wp_mono (hx S F ρ0 ρ a w h0 h1 hM hF) ?_)
  rintro e a' w' ⟨ex,he,f,M',S',ρ',k,k1,k2,k3,k4,k5⟩
  cases e with
  |normal=>cases he;exact⟨_,rfl,f,M',S',ρ',k,k1,k2,k3,k4,k5⟩
  |exit i=>
   cases he
   simp only[Exit.inBlock]
   simp only at k
   split at k
   ·rename_i hb
    rw[if_pos (Nat.eq_of_beq_eq_true hb)]
    exact⟨_,rfl,f,M',S',ρ',k,k1,k2,k3,k4,k5⟩
   ·rename_i hb
    rw[if_neg (fun e=>by subst e;simp at hb)]
    exact⟨_,rfl,f,M',S',ρ',k,k1,k2,k3,k4,k5⟩
  |ret=>cases he;exact⟨_,rfl,f,M',S',ρ',k,k1,k2,k3,k4,k5⟩
  |goto l=>cases he
  |panic l=>cases he
  |outgrown=>cases he
 |exit id=>
  intro fr M Q h
  rw[dn]
  intro S F ρ0 ρ a w h0 h1 hM hF
  exact wp_exit ⟨_,rfl,fr,M,S,ρ,h,ai.le_refl _,h1,hM,hF,eo.refl _⟩
 |ret=>
  intro fr M Q h
  rw[dn]
  intro S F ρ0 ρ a w h0 h1 hM hF
  exact wp_ret ⟨_,rfl,fr,M,S,ρ,h,ai.le_refl _,h1,hM,hF,eo.refl _⟩
 |loop c _=>intro fr M Q h;exact h
 |rangeFunc f ps as c _ _=>intro fr M Q h;exact h
 |scope c ih=>
  intro fr M Q h
  have h2:=ih fr M Q h
  rw[dn] at h2⊢
  intro S F ρ0 ρ a w h0 h1 hM hF
  refine wp_scope_straight (wp_mono (h2 S F ρ0 ρ a w h0 h1 hM hF) ?_)
  rintro e a' w' ⟨x,hx,ha⟩
  cases e with
  |goto l=>cases hx
  |normal=>exact⟨x,hx,ha⟩
  |exit i=>exact⟨x,hx,ha⟩
  |ret=>exact⟨x,hx,ha⟩
  |panic l=>cases hx
  |outgrown=>cases hx
 |label l=>
  intro fr M Q h
  rw[dn]
  intro S F ρ0 ρ a w h0 h1 hM hF
  exact wp_label ⟨.normal,rfl,fr,M,S,ρ,h,ai.le_refl _,h1,hM,hF,eo.refl _⟩
 |goto l=>intro fr M Q h;exact h
 |refuse s=>intro fr M Q h;exact h
structure aH (D:List Nat) (fr:List AV) (M:ag) (fr':List AV) (M':ag):Prop where
 out:∀S F ρ0 ρ a w,te ρ0 D->aE.le ρ0 ρ->aD S F ρ M w->fJ S ρ a fr->∃S' ρ',S.le S'/\aE.le ρ0 ρ'/\aD S' F ρ' M' w/\fJ S' ρ' a fr'
theorem m8 {D:List Nat} {fr:List AV} {M:ag} {fr':List AV} {M':ag}:aH D fr M fr' M'↔(∀S F ρ0 ρ a w,te ρ0 D->aE.le ρ0 ρ->aD S F ρ M w->fJ S ρ a fr->∃S' ρ',S.le S'/\aE.le ρ0 ρ'/\aD S' F ρ' M' w/\fJ S' ρ' a fr'):=⟨fun h=>h.out,fun h=>⟨h⟩⟩
theorem aJ.sub {c:Code} {fr fr':List AV} {M M':ag} {Q:dY} (hs:aH D fr M fr' M') (h:aJ P D c fr' M' Q):aJ P D c fr M Q:=by
 simp only[dn,m8] at*
 intro S F ρ0 ρ a w h0 h1 hM hF
 obtain⟨S',ρ',k1,k2,k3,k4⟩:=hs S F ρ0 ρ a w h0 h1 hM hF
 refine wp_mono (h S' F ρ0 ρ' a w h0 k2 k3 k4) ?_
 rintro e a' w' ⟨x,hx,ha⟩
 exact⟨x,hx,ha.trans k1 (aE.le_refl _) (eo.refl _)⟩
def tf {X:Type _} (D:List Nat) (I:X->Prop) (frI:X->List AV) (MI:X->ag) (μ:X->Nat) (x:X) (Q:dY):dY:=fun e fr M=>match e with
 | .normal=>∃x',aH D fr M (frI x') (MI x')/\I x'/\μ x'<μ x
 | .exit i=>Q (.exit i) fr M
 | .ret=>Q .ret fr M
theorem aJ.loop {c:Code} {fr:List AV} {M:ag} {Q:dY} {X:Type _} (I:X->Prop) (frI:X->List AV) (MI:X->ag) (μ:X->Nat) (x0:X) (hi:I x0) (h0:aH D fr M (frI x0) (MI x0))
  (h:∀x,I x->aJ P D c (frI x) (MI x) (tf D I frI MI μ x Q)):aJ P D (.loop c) fr M Q:=by
 refine aJ.sub h0 ?_
 rw[dn]
 intro S F ρ0 ρ a w hin h1 hM hF
 have key:∀(n:Nat) (x:X) (S1:ai) (ρ1:aE) (a1:Act) (w1:World),μ x=n->I x->S.le S1->eo w w1->aE.le ρ0 ρ1->aD S1 F ρ1 (MI x) w1->fJ S1 ρ1 a1 (frI x)->
   ∀b k cs,∃e a' w',(∃x,I' e=some x/\dG S F ρ0 w (Q x) a' w')/\Arrives P (lone (b.at a1 (.code c:: .inLoop c::k)) cs w1) b k cs e a' w':=by
  intro n
  induction n using Nat.strongRecOn with
  |_ n ih=>
   intro x S1 ρ1 a1 w1 hn hIx hS hw hρ hM1 hF1 b k cs
   have hx:=h x hIx
   rw[dn] at hx
   obtain⟨e,a2,w2,⟨ex,he,f,M',S2,ρ2,kk,k1,k2,k3,k4,k5⟩,harr⟩:=hx S1 F ρ0 ρ1 a1 w1 hin hρ hM1 hF1 b (.inLoop c::k) cs
   cases e with
   |normal=>
    cases he
    obtain⟨x',hsub,hIx',hlt⟩:=kk
    rw[m8] at hsub
    obtain⟨S3,ρ3,j1,j2,j3,j4⟩:=hsub S2 F ρ0 ρ2 a2 w2 hin k2 k3 k4
    obtain⟨e3,a3,w3,hq,harr3⟩:=ih (μ x') (hn▸hlt) x' S3 ρ3 a2 w2 rfl hIx' (ai.le_trans hS (ai.le_trans k1 j1)) (hw.trans k5) j2 j3 j4 b k cs
    exact⟨e3,a3,w3,hq, .of_steps (Steps.trans harr (.one step_inLoop)) harr3⟩
   |exit i=>cases he;exact⟨_,a2,w2,⟨_,rfl,f,M',S2,ρ2,kk,ai.le_trans hS k1,k2,k3,k4,hw.trans k5⟩, .pass (x:= .inLoop c) rfl (fun _ _=> .inl (by simp)) harr⟩
   |ret=>cases he;exact⟨_,a2,w2,⟨_,rfl,f,M',S2,ρ2,kk,ai.le_trans hS k1,k2,k3,k4,hw.trans k5⟩, .pass (x:= .inLoop c) rfl (fun _ _=> .inl (by simp)) harr⟩
   |goto l=>cases he
   |panic l=>cases he
   |outgrown=>cases he
 intro b k cs
 obtain⟨e,a',w',hq,harr⟩:=key _ x0 S ρ a w rfl hi (ai.le_refl _) (eo.refl _) h1 hM hF b k cs
 exact⟨e,a',w',hq, .of_steps (.one step_loop) harr⟩
end
end
section
section
theorem aH.by_ {D:List Nat} {fr fr':List AV} {M:ag} (lm:bc) (L:List (Nat×bf)) (n:Nat) (hs:(fA lm L&&eG L lm&&ve lm D)=true) (hm:bG lm n M L) (hf:i3 lm n fr fr'):aH D fr M fr' (ag.ofL L):=by
 rw[m8]
 intro S F ρ0 ρ a w h0 h1 hM hF
 rw[Bool.and_eq_true,Bool.and_eq_true] at hs
 refine⟨S,bQ lm ρ,ai.le_refl _,fun ℓ b hb=>?_,hM.relabel hm hs.1.1 hs.1.2,(eU n).2 fr fr' _ hf hF.1,hF.2⟩
 have:=List.all_eq_true.1 hs.2 ℓ (h0 ℓ b hb)
 unfold bQ
 cases hf:aq lm ℓ with
 |none=>rw[hf] at this;cases this
 |some x=>
  rw[hf] at this
  cases x with
  |old m=>
   simp only at this⊢
   rw[Nat.eq_of_beq_eq_true this]
   exact h1 ℓ b hb
  |nil _=>cases this
end
def Ja:Nat->(List AV->Prop)->Prop
 |0,k=>k []
 |n+1,k=>Ja n fun l=>k (.tup []::l)
theorem Cx:∀(n:Nat) (k:List AV->Prop),Ja n k=k (List.replicate n (.tup []))
 |0,k=>rfl
 |n+1,k=>by rw[Ja,Cx n];rfl
def uM:List AV->Nat->(List AV->Prop)->Prop
 |[],n,k=>Ja n k
 |u::us,n,k=>uM us n fun l=>k (u::l)
theorem eJ:∀(us:List AV) (n:Nat) (k:List AV->Prop),uM us n k=k (us++List.replicate n (.tup []))
 |[],n,k=>by rw[uM,Cx];rfl
 |u::us,n,k=>by rw[uM,eJ us n];rfl
def qi (tmps:Array Value):ResultVar->Sem Value
 | .tmp t=>pure (tmps.getD t undef)
 | .cell x t=>do loadVar t (<-asAddr (tmps.getD x undef))
def nD (tt:TT) (fr:List AV) (M:ag):List ResultVar->(List AV->Prop)->Prop
 |[],k=>k []
 |r::rs,k=>match r with
  | .tmp t=>wL fr t fun u=>nD tt fr M rs fun us=>k (u::us)
  | .cell a t=>wL fr a fun p=>gY (gm tt t M p) fun u=>nD tt fr M rs fun us=>k (u::us)
def gt:List AV->AV
 |[u]=>u
 |us=> .tup us
def jt:List AV->ag->(List AV->ag->Prop)->Prop
 |[],M,K=>K [] M
 |u::us,M,K=>match u with
  | .agg cs=>eD cs M fun cs' M'=>jt us M' fun us' M''=>K (.agg cs'::us') M''
  | .ptr ℓ 0=>match M ℓ with
   |some (.box _ cells)=>match cD cells with
    |true=>jt us (M.set ℓ .dead) fun us' M''=>K (.pd cells::us') M''
    |false=>jt us M fun us' M''=>K (.ptr ℓ 0::us') M''
   |_=>jt us M fun us' M''=>K (.ptr ℓ 0::us') M''
  |u=>eD [u] M fun x M'=>jt us M' fun us' M''=>K (x++us') M''
section
variable {S F:ai} {ρ:aE} {M:ag} {w:World} {P:Program} {tt:TT}
theorem lg (hT:bn P tt=true) (hM:aD S F ρ M w) {a:Act} {fr:List AV} (hF:fJ S ρ a fr):∀(rs:List ResultVar) (k:List AV->Prop),nD tt fr M rs k->
  ∃vs us,k us/\bk S ρ vs us/\vs.length=rs.length/\(rs.mapM (qi a.tmps)).run P w= .ok vs w
 |[],k,h=>⟨[],[],h,bk.nil _ _,rfl,by simp⟩
 |r::rs,k,h=>by
  cases r with
  |tmp t=>
   simp only[nD,m0] at h
   obtain⟨vs,us,hk,hv,hl,hr⟩:=lg hT hM hF rs _ h
   exact⟨a.tmps.getD t undef::vs,_,hk,bk.cons (hF.eval (.tmp t)) hv,by simp[hl],by simp[List.mapM_cons,hr,qi]⟩
  |cell x t=>
   simp only[nD,m0] at h
   have hx:=hF.eval (.tmp x)
   obtain⟨v,u,he,hv,h⟩:=FC h (u3 (t:=t) hT hM hx).next
   obtain⟨vs,us,hk,hvs,hl,hr⟩:=lg hT hM hF rs _ h
   have he':(Instr.loadAt t (a.eval (.tmp x))).run P w= .ok v w:=by
    simp only[Sem.run_bind] at he
    cases hq:(Instr.loadAt t (a.eval (.tmp x))).run P w with
    |ok y w'=>rw[hq] at he;simp at he;rw[he.1,he.2]
    |halt y w'=>rw[hq] at he;simp at he
   have he2:(qi a.tmps (.cell x t)).run P w= .ok v w:=by
    unfold qi
    have:a.eval (.tmp x)=a.tmps.getD x undef:=rfl
    rw[this] at he'
    show(do loadVar t (<-asAddr (a.tmps.getD x undef)):Sem Value).run P w= .ok v w
    generalize a.tmps.getD x undef=y at he'⊢
    unfold Instr.loadAt Instr.sureAddr at he'
    cases y with
    |pointer ad=>
     cases ad with
     |some ad=>simpa[asAddr] using he'
     |none=>simp at he'
    |_=>simp at he'
   exact⟨v::vs,_,hk,bk.cons hv hvs,by simp[hl],by simp[List.mapM_cons,he2,hr]⟩
theorem gu:∀(us:List AV) (vs:List Value) (S:ai) (M:ag) (K:List AV->ag->Prop),jt us M K->bk S ρ vs us->aD S F ρ M w->
  ∃us' M' S',K us' M'/\S.le S'/\bk S' ρ vs us'/\aD S' F ρ M' w
 |[],vs,S,M,K,h,hv,hM=>⟨[],M,S,h,ai.le_refl _,hv,hM⟩
 |u::us,vs,S,M,K,h,hv,hM=>by
  obtain⟨x,xs,rfl,hx,hxs⟩:=hv.cons_inv
  simp only[jt] at h
  split at h
  ·rename_i cs
   obtain⟨ys,rfl,hys⟩:=hx.agg_inv
   obtain⟨cs',M1,S1,h,hle,hc,hM1,_⟩:=iw _ _ _ _ _ h hys hM
   obtain⟨us',M',S',hK,hle',hvs',hM'⟩:=gu us xs S1 M1 _ h (hxs.mono hle (aE.le_refl _)) hM1
   refine⟨_,M',S',hK,ai.le_trans hle hle',bk.cons ?_ hvs',hM'⟩
   have:=RV.agg_mk (hc.mono hle' (aE.le_refl _))
   simpa using this
  ·split at h
   ·rename_i hl
    split at h
    ·rename_i hp
     obtain⟨S1,b,hle,hb,hM1,hr⟩:=hM.leakBox hl (fun j u v hu hv=>by
      have ho:oM u=true:=by
       have:∀(l:List AV),cD l=true->∀u∈l,oM u=true:=by
        intro l
        induction l with
        |nil=>intro _ u hu;cases hu
        |cons a l ih=>
         intro hp u hu
         simp only[cD] at hp
         split at hp
         ·rename_i ha
          rcases List.mem_cons.1 hu with rfl|hu
          ·exact ha
          ·exact ih hp u hu
         ·simp at hp
       exact this _ hp u (List.mem_of_getElem? hu)
      exact(yn ho hv).1)
     obtain⟨us',M',S',hK,hle',hvs',hM'⟩:=gu us xs S1 _ _ h (hxs.mono hle (aE.le_refl _)) hM1
     obtain⟨b',hb',rfl⟩:=hx.ptr_inv
     rw[hb] at hb';cases hb'
     exact⟨_,M',S',hK,ai.le_trans hle hle',bk.cons (.p (hr.mono hle')) hvs',hM'⟩
    ·obtain⟨us',M',S',hK,hle',hvs',hM'⟩:=gu us xs S M _ h hxs hM
     exact⟨_,M',S',hK,hle',bk.cons (hx.mono hle' (aE.le_refl _)) hvs',hM'⟩
   ·obtain⟨us',M',S',hK,hle',hvs',hM'⟩:=gu us xs S M _ h hxs hM
    exact⟨_,M',S',hK,hle',bk.cons (hx.mono hle' (aE.le_refl _)) hvs',hM'⟩
  ·obtain⟨y,M1,S1,h,hle,hc,hM1,_⟩:=iw _ [x] _ _ _ h (bk.cons hx (bk.nil _ _)) hM
   obtain⟨us',M',S',hK,hle',hvs',hM'⟩:=gu us xs S1 M1 _ h (hxs.mono hle (aE.le_refl _)) hM1
   exact⟨_,M',S',hK,ai.le_trans hle hle',(hc.mono hle' (aE.le_refl _)).append hvs',hM'⟩
theorem mo {vs:List Value} {us:List AV} (hv:bk S ρ vs us):RV S ρ (if h:vs.length=1 then vs[0] else .tuple vs.toArray) (gt us):=by
 cases us with
 |nil=>rw[hv.nil_inv];simpa[gt] using RV.tup_mk (bk.nil S ρ)
 |cons u us=>
  obtain⟨x,xs,rfl,hx,hxs⟩:=hv.cons_inv
  cases us with
  |nil=>have:=hxs.nil_inv;subst this;simpa[gt] using hx
  |cons u2 us=>
   obtain⟨x2,xs2,rfl,_,_⟩:=hxs.cons_inv
   simpa[gt] using RV.tup_mk hv
def LC (tt:TT) (rs:List ResultVar) (R:AV->ag->Prop):dY:=fun e fr M=>match e with
 | .normal=>nD tt fr M rs fun us=>R (gt us) M
 | .ret=>nD tt fr M rs fun us=>R (gt us) M
 | .exit _=>False
def Jb (tt:TT) (rs:List ResultVar) (R:AV->ag->Prop):dY:=fun e fr M=>match e with
 | .normal=>nD tt fr M rs fun us=>jt us M fun us' M'=>R (gt us') M'
 | .ret=>nD tt fr M rs fun us=>jt us M fun us' M'=>R (gt us') M'
 | .exit _=>False
def Jc (tt:TT) (rs:List ResultVar) (R:AV->Prop):dY:=fun e fr M=>match e with
 | .normal=>nD tt fr M rs fun us=>jt us M fun us' _=>R (gt us')/\dl 5 (gt us')=true
 | .ret=>nD tt fr M rs fun us=>jt us M fun us' _=>R (gt us')/\dl 5 (gt us')=true
 | .exit _=>False
theorem iz {fn:Func} {tmps:Array Value} {vs:List Value} (h:(fn.results.toList.mapM (qi tmps)).run P w= .ok vs w):(results fn tmps).run P w= .ok (if h:vs.length=1 then vs[0] else .tuple vs.toArray) w:=by
 have e:results fn tmps=(do
   let vs <-fn.results.mapM (qi tmps)
   pure (if h:vs.size=1 then vs[0] else .tuple vs)):=by
  unfold results
  congr 2
 rw[e,Array.mapM_eq_mapM_toList]
 simp only[Sem.run_bind,Sem.run_map,h,Result.andThen_ok,Sem.run_pure]
 congr 1
theorem m9 {f:FuncId} {fn:Func} {c:Code} {args:List AV} {D:List Nat} (hf:P.funcs[f]? =some fn) (hb:fn.body=some c) {Q:dY}
  (hw:uM args (fn.ntmps-args.length) fun fr=>aJ P D c fr M Q) {ρ0:aE} (hD:te ρ0 D) {vs:List Value} (hM:aD S F ρ0 M w) (hv:bk S ρ0 vs args) {R:Ending->World->Prop}
  (hR:∀(e:PD) a' w',dG S F ρ0 w (Q e) a' w'->a'.defers=[]->(∀i,e≠ .exit i)/\∃v,(results fn a'.tmps).run P w'= .ok v w'/\R (.returned v) w'):Calls P f vs.toArray w R:=by
 rw[eJ] at hw
 rw[dn] at hw
 refine calls_of_wp hf hb ?_
 have hlen:=hv.1
 have hF:fJ S ρ0 {tmps:=vs.toArray++Array.replicate (fn.ntmps-vs.toArray.size) undef,defers:=[]} (args++List.replicate (fn.ntmps-args.length) (.tup [])):=by
  refine⟨?_,rfl⟩
  have e:(vs.toArray++Array.replicate (fn.ntmps-vs.toArray.size) undef).toList=vs++List.replicate (fn.ntmps-args.length) undef:=by simp[hlen]
  rw[e]
  refine hv.append ⟨by simp,fun i u hu=>?_⟩
  have hi:=(List.getElem?_eq_some_iff.1 hu).1
  simp only[List.length_replicate] at hi
  have hu':u= .tup []:=by
   rw[List.getElem?_replicate] at hu
   simp[hi] at hu
   exact hu.symm
  subst hu'
  exact⟨undef,by simp[hi],RV.tup_mk (bk.nil _ _)⟩
 refine wp_mono (hw S F ρ0 ρ0 _ w hD (aE.le_refl _) hM hF) ?_
 rintro e a' w' ⟨x,hx,ha⟩
 have hd:a'.defers=[]:=by obtain⟨_,_,_,_,_,_,_,_,hF',_⟩:=ha;exact hF'.2
 obtain⟨h1,v,h2,h3⟩:=hR x a' w' ha hd
 cases e with
 |normal=>exact⟨hd,v,h2,h3⟩
 |ret=>exact⟨hd,v,h2,h3⟩
 |exit i=>cases hx;exact absurd rfl (h1 i)
 |goto l=>cases hx
 |panic l=>cases hx
 |outgrown=>cases hx
theorem mq {f:FuncId} {fn:Func} {c:Code} (hf:P.funcs[f]? =some fn) (hb:fn.body=some c) (hn:(fn.name== "runtime.NumGoroutine")=false):q9 P f:=⟨fn,hf,hn,by rw[hb];rfl⟩
theorem aj.intro (hT:bn P tt=true) (hm:P.follows .mixedOrders=true) {f:FuncId} {fn:Func} {c:Code} {args:List AV} (L:List (Nat×bf)) {R:AV->ag->Prop} (hf:P.funcs[f]? =some fn) (hb:fn.body=some c) (hn:(fn.name== "runtime.NumGoroutine")=false)
  (h:uM args (fn.ntmps-args.length) fun fr=>bX P tt (L.map (·.1)) c fr (ag.ofL L) (LC tt fn.results.toList R)):aj P f args (ag.ofL L) R:=by
 rw[ce]
 refine⟨mq hf hb hn,fun S F ρ vs w hM hv=>?_⟩
 have hD:te ρ (L.map (·.1)):=fun ℓ b hb=>by
  have:=hM.dom ℓ b hb
  cases hB:ag.ofL L ℓ with
  |none=>exact absurd hB this
  |some B=>exact List.mem_map_of_mem (f:=(·.1)) (fR hB)
 refine m9 (D:=L.map (·.1)) (Q:=LC tt fn.results.toList R) hf hb ?_ hD hM hv fun e a' w' ha hd=>?_
 ·rw[eJ] at h⊢;exact js hT hm c _ _ _ h
 ·obtain⟨fr,M',S',ρ',hk,h1,h2,h3,h4,h5⟩:=ha
  have fin:nD tt fr M' fn.results.toList (fun us=>R (gt us) M')->∃v,(results fn a'.tmps).run P w'= .ok v w'/\md S F ρ w R (.returned v) w':=by
   intro hk
   obtain⟨vs',us,hK,hvs,hl,hr⟩:=lg hT h3 h4 _ _ hk
   exact⟨_,iz hr,_,_,M',S',ρ',rfl,hK,h1,h2,h3,mo hvs,h5⟩
  cases e with
  |normal=>exact⟨by simp,fin hk⟩
  |ret=>exact⟨by simp,fin hk⟩
  |exit i=>exact hk.elim
theorem aj.introL (hT:bn P tt=true) (hm:P.follows .mixedOrders=true) {f:FuncId} {fn:Func} {c:Code} {args:List AV} (L:List (Nat×bf)) {R:AV->ag->Prop} (hf:P.funcs[f]? =some fn) (hb:fn.body=some c) (hn:(fn.name== "runtime.NumGoroutine")=false)
  (h:uM args (fn.ntmps-args.length) fun fr=>bX P tt (L.map (·.1)) c fr (ag.ofL L) (Jb tt fn.results.toList R)):aj P f args (ag.ofL L) R:=by
 rw[ce]
 refine⟨mq hf hb hn,fun S F ρ vs w hM hv=>?_⟩
 have hD:te ρ (L.map (·.1)):=fun ℓ b hb=>by
  have:=hM.dom ℓ b hb
  cases hB:ag.ofL L ℓ with
  |none=>exact absurd hB this
  |some B=>exact List.mem_map_of_mem (f:=(·.1)) (fR hB)
 refine m9 (D:=L.map (·.1)) (Q:=Jb tt fn.results.toList R) hf hb ?_ hD hM hv fun e a' w' ha hd=>?_
 ·rw[eJ] at h⊢;exact js hT hm c _ _ _ h
 ·obtain⟨fr,M',S',ρ',hk,h1,h2,h3,h4,h5⟩:=ha
  have fin:(nD tt fr M' fn.results.toList fun us=>jt us M' fun us' M''=>R (gt us') M'')->∃v,(results fn a'.tmps).run P w'= .ok v w'/\md S F ρ w R (.returned v) w':=by
   intro hk
   obtain⟨vs',us,hK,hvs,hl,hr⟩:=lg hT h3 h4 _ _ hk
   obtain⟨us',M2,S2,hR,hle,hvs2,hM2⟩:=gu _ _ _ _ _ hK hvs h3
   exact⟨_,iz hr,_,_,M2,S2,ρ',rfl,hR,ai.le_trans h1 hle,h2,hM2,mo hvs2,h5⟩
  cases e with
  |normal=>exact⟨by simp,fin hk⟩
  |ret=>exact⟨by simp,fin hk⟩
  |exit i=>exact hk.elim
theorem ah.intro (hT:bn P tt=true) (hm:P.follows .mixedOrders=true) {f:FuncId} {fn:Func} {c:Code} {args:List AV} {R:AV->Prop} (hf:P.funcs[f]? =some fn) (hb:fn.body=some c) (hn:(fn.name== "runtime.NumGoroutine")=false)
  (h:uM args (fn.ntmps-args.length) fun fr=>bX P tt [] c fr ag.none (Jc tt fn.results.toList R)):ah P f args R:=by
 rw[dM]
 refine⟨mq hf hb hn,fun S F vs w hg hs hfr hd hv=>?_⟩
 refine m9 (M:=ag.none) (ρ0:=fun _=>none) (D:=[]) (Q:=Jc tt fn.results.toList R) hf hb ?_ (fun ℓ b hb=>by cases hb) ⟨hs,hfr,hd,by simp,by simp[ag.none],by simp,hg⟩ (hv.rv _) fun e a' w' ha hd'=>?_
 ·rw[eJ] at h⊢;exact js hT hm c _ _ _ h
 ·obtain⟨fr,M',S',ρ',hk,h1,h2,h3,h4,h5⟩:=ha
  have fin:(nD tt fr M' fn.results.toList fun us=>jt us M' fun us' _=>R (gt us')/\dl 5 (gt us')=true)->∃v,(results fn a'.tmps).run P w'= .ok v w'/\oU S F w R (.returned v) w':=by
   intro hk
   obtain⟨vs',us,hK,hvs,hl,hr⟩:=lg hT h3 h4 _ _ hk
   obtain⟨us',M2,S2,⟨hR,hp⟩,hle,hvs2,hM2⟩:=gu _ _ _ _ _ hK hvs h3
   exact⟨_,iz hr,_,_,S2,rfl,hR,ai.le_trans h1 hle,hM2.sw,hM2.fw,hM2.sf,me 5 hp (mo hvs2),h5⟩
  cases e with
  |normal=>exact⟨by simp,fin hk⟩
  |ret=>exact⟨by simp,fin hk⟩
  |exit i=>exact hk.elim
theorem ah.introZ (ti:TypeId) (hT:bn P tt=true) (hm:P.follows .mixedOrders=true) {f:FuncId} {fn:Func} {c:Code} {args:List AV} {R:AV->Prop} (hf:P.funcs[f]? =some fn) (hb:fn.body=some c) (hn:(fn.name== "runtime.NumGoroutine")=false)
  (h:uM args (fn.ntmps-args.length) fun fr=>bX P tt [9998] c fr (ag.ofL [(9998, .row ti (0:Int) al [])]) (Jc tt fn.results.toList R)):ah P f args R:=by
 rw[dM]
 refine⟨mq hf hb hn,fun S F vs w hg hs hfr hd hv=>?_⟩
 have h0:aD S F (aE.set (fun _=>none) 9998 ⟨0,0,0,1,true⟩) (ag.none.set 9998 (.row ti (0:Int) al [])) w:=
  aD.add (ρ:=fun _=>none) (M:=ag.none) ⟨hs,hfr,hd,by simp,by simp[ag.none],by simp,hg⟩ rfl _ _ (fun _ _ _ h1=>by cases h1) ⟨rfl,by simp, .inl ⟨rfl,rfl,rfl⟩⟩
 have e0:ag.none.set 9998 (.row ti (0:Int) al [])=ag.ofL [(9998, .row ti (0:Int) al [])]:=by
  funext x
  unfold ag.set ag.ofL
  cases h1:Nat.beq x 9998 with
  |true=>rw[Nat.eq_of_beq_eq_true h1]
  |false=>
   have:Nat.beq 9998 x=false:=by rw[Bool.eq_false_iff];intro e;rw[Nat.eq_of_beq_eq_true e] at h1;rw[Nat.beq_refl] at h1;cases h1
   rw[this];rfl
 rw[e0] at h0
 refine m9 (D:=[9998]) (Q:=Jc tt fn.results.toList R) hf hb ?_ (fun ℓ b hb=>?_) h0 (hv.rv _) fun e a' w' ha hd'=>?_
 ·rw[eJ] at h⊢;exact js hT hm c _ _ _ h
 ·by_cases e:ℓ=9998
  ·exact List.mem_singleton.2 e
  ·rw[aE.set_ne _ _ e] at hb;cases hb
 ·obtain⟨fr,M',S',ρ',hk,h1,h2,h3,h4,h5⟩:=ha
  have fin:(nD tt fr M' fn.results.toList fun us=>jt us M' fun us' _=>R (gt us')/\dl 5 (gt us')=true)->∃v,(results fn a'.tmps).run P w'= .ok v w'/\oU S F w R (.returned v) w':=by
   intro hk
   obtain⟨vs',us,hK,hvs,hl,hr⟩:=lg hT h3 h4 _ _ hk
   obtain⟨us',M2,S2,⟨hR,hp⟩,hle,hvs2,hM2⟩:=gu _ _ _ _ _ hK hvs h3
   exact⟨_,iz hr,_,_,S2,rfl,hR,ai.le_trans h1 hle,hM2.sw,hM2.fw,hM2.sf,me 5 hp (mo hvs2),h5⟩
  cases e with
  |normal=>exact⟨by simp,fin hk⟩
  |ret=>exact⟨by simp,fin hk⟩
  |exit i=>exact hk.elim
end
end
section
section
variable {M:ag} {P:Program}
theorem Ea (ℓ:Nat) (B:bf) (M:ag):bh [(ℓ,B)] M=M.set ℓ B:=by
 funext x
 simp only[bh,ag.ofL,ag.set]
 by_cases h:x=ℓ
 ·subst h;simp
 ·have h1:Nat.beq ℓ x=false:=by rw[Bool.eq_false_iff];intro hh;exact h (Nat.eq_of_beq_eq_true hh).symm
  have h2:Nat.beq x ℓ=false:=by rw[Bool.eq_false_iff];intro hh;exact h (Nat.eq_of_beq_eq_true hh)
  simp[h1,h2]
def newRow (n sz:Nat) (B:bf):AV->ag->Prop:=fun u M=>∃ℓ0,u= .row ℓ0 n sz/\nB [] 1 (M ℓ0) B
theorem aj.fresh {f:FuncId} {args:List AV} {K:AV->ag->Prop} {n sz:Nat} {t:TypeId} {α:Type} {d:α} {enc:α->List AV} {l:List α} (ℓ:Nat)
  (h:aj P f args (ag.ofL []) (fun u M=>∃ℓ0,u= .row ℓ0 n sz/\M ℓ0=some (.row t d enc l))) (hf:(M ℓ).isNone=true) (ha:i3 [] 400 args args)
  (hk:K (.row ℓ n sz) (M.set ℓ (.row t d enc l))):aj P f args M K:=by
 refine aj.call [] [] 400 rfl trivial ha h ?_
 rintro u M' ⟨ℓ0,rfl,e⟩
 refine⟨[(ℓ, .old ℓ0)],[(ℓ, .row t d enc l)], .row ℓ n sz,?_,?_,?_,?_⟩
 ·simp[fA,eG,ik,oX,Ck,sT,ag.ofL,hf]
 ·simp[bG,aq,nB,e]
 ·simp[oW,aq]
 ·rw[Ea];exact hk
theorem aj.news {f:FuncId} {args:List AV} {K:AV->ag->Prop} {R:AV->ag->Prop} (n:Nat) (lb:bc) (L2:List (Nat×bf)) (u':AV) (h:aj P f args (ag.ofL []) R) (ha:i3 [] n args args)
  (hb:(fA lb L2&&eG L2 lb&&Ck [] lb&&sT [] lb M)=true) (hr:∀u M',R u M'->bG lb n M' L2/\oW lb n u u') (hk:K u' (bh L2 M)):aj P f args M K:=
 aj.call [] [] n rfl trivial ha h fun u M' hR=>⟨lb,L2,u',hb,(hr u M' hR).1,(hr u M' hR).2,hk⟩
end
end
section
def wU:List Oper->List Nat->List Nat
 |[],r=>r
 |o::l,r=>match o.dst with
  |some d=>d::wU l r
  |none=>wU l r
def mr:Code->List Nat->List Nat
 | .region _ ops _,r=>wU ops.toList r
 | .seq a b,r=>mr a (mr b r)
 | .cond _ a b,r=>mr a (mr b r)
 | .block _ a,r=>mr a r
 | .loop a,r=>mr a r
 | .rangeFunc _ ps a b,r=>ps.toList++mr a (mr b r)
 | .scope a,r=>mr a r
 |_,r=>r
def tg:List Nat->(List Nat->Prop)->Prop
 |[],k=>k []
 |n::l,k=>tg l fun l'=>k (n::l')
theorem qk:∀(l:List Nat) (k:List Nat->Prop),tg l k=k l
 |[],_=>rfl
 |n::l,k=>by rw[tg,qk l]
def NU:List Nat->Nat->Bool
 |[],_=>false
 |n::l,i=>match Nat.beq n i with|true=>true|false=>NU l i
def th:List AV->Nat->List Nat->(List AV->Prop)->Prop
 |[],_,_,k=>k []
 |u::fr,i,ms,k=>match NU ms i with
  |true=>th fr (Nat.succ i) ms fun r=>k (.top::r)
  |false=>match u with
   | .tup _=>th fr (Nat.succ i) ms fun r=>k (.top::r)
   |u=>th fr (Nat.succ i) ms fun r=>k (u::r)
theorem mt:∀(fr:List AV) (i:Nat) (ms:List Nat) (k:List AV->Prop),th fr i ms k->∃fr0,k fr0
 |[],_,_,k,h=>⟨[],h⟩
 |u::fr,i,ms,k,h=>by
  unfold th at h
  split at h
  ·obtain⟨r,hr⟩:=mt fr _ _ _ h;exact⟨_,hr⟩
  ·split at h
   ·obtain⟨r,hr⟩:=mt fr _ _ _ h;exact⟨_,hr⟩
   ·obtain⟨r,hr⟩:=mt fr _ _ _ h;exact⟨_,hr⟩
def re:List AV->List (Nat×AV)->List AV
 |fr,[]=>fr
 |fr,(i,u)::us=>re (fr.set i u) us
def yQ:List AV->List (Nat×AV)->(List AV->Prop)->Prop
 |fr,[],k=>k fr
 |fr,(i,u)::us,k=>nC fr i u fun fr'=>yQ fr' us k
theorem tj:∀(us:List (Nat×AV)) (fr:List AV) (k:List AV->Prop),yQ fr us k=k (re fr us)
 |[],_,_=>rfl
 |(i,u)::us,fr,k=>by rw[yQ,wM,tj us];rfl
def lV (L:List (Nat×bf)):bc:=L.map fun p=>(p.1, .old p.1)
theorem aH.id_ {D:List Nat} {fr fr':List AV} {M:ag} {L:List (Nat×bf)} (n:Nat) (hs:(fA (lV L) L&&eG L (lV L)&&ve (lV L) D)=true) (hm:bG (lV L) n M L) (hf:i3 (lV L) n fr fr'):aH D fr M fr' (ag.ofL L):=
 aH.by_ (lV L) L n hs hm hf
theorem sI {D:List Nat} {fr fr':List AV} {M:ag} {L:List (Nat×bf)} (hm:bG (lV L) 400 M L:=by repeat' (first|exact True.intro|exact rfl|(refine And.intro ?_ ?_)|((conv=>whnf);omega)|((conv=>whnf);simp only[List.length_append,List.length_cons,List.length_nil];done)|((conv=>whnf);simp only[List.length_append,List.length_cons,List.length_nil];omega))) (hf:i3 (lV L) 400 fr fr':=by repeat' (first|exact True.intro|exact rfl|(refine And.intro ?_ ?_)|((conv=>whnf);omega)|((conv=>whnf);simp only[List.length_append,List.length_cons,List.length_nil];done)|((conv=>whnf);simp only[List.length_append,List.length_cons,List.length_nil];omega))) (hs:(fA (lV L) L&&eG L (lV L)&&ve (lV L) D)=true:=by exact rfl):aH D fr M fr' (ag.ofL L):=aH.id_ 400 hs hm hf
theorem aj.norm {P:Program} {f:FuncId} {args:List AV} {L0:List (Nat×bf)} {R R':AV->ag->Prop} (n:Nat) (h:aj P f args (ag.ofL L0) R)
  (hk:∀u M',R u M'->∃(L:List (Nat×bf)) (u':AV),(fA (lV L) L&&eG L (lV L)&&ve (lV L) (L0.map (·.1)))=true/\bG (lV L) n M' L/\oW (lV L) n u u'/\R' u' (ag.ofL L)):aj P f args (ag.ofL L0) R':=by
 rw[ce] at h⊢
 refine⟨h.1,fun S F ρ vs w hM hv=>(h.2 S F ρ vs w hM hv).mono ?_⟩
 rintro e w' ⟨v,u,M',S',ρ',rfl,hR,hle,hρ,hM',hr,hw⟩
 obtain⟨L,u',hb,hm,ha,hR'⟩:=hk u M' hR
 simp only[Bool.and_eq_true] at hb
 obtain⟨⟨hb1,hb2⟩,hb3⟩:=hb
 refine⟨v,u',_,S',bQ (lV L) ρ',rfl,hR',hle,fun ℓ b hb=>?_,hM'.relabel hm hb1 hb2,(eU n).1 u u' v ha hr,hw⟩
 have hd:=hM.dom ℓ b hb
 obtain⟨B,hB⟩:∃B,ag.ofL L0 ℓ=some B:=by
  cases h:ag.ofL L0 ℓ with
  |none=>exact absurd h hd
  |some B=>exact⟨B,rfl⟩
 have hmem:=List.mem_map_of_mem (f:=(·.1)) (fR hB)
 have:=List.all_eq_true.1 hb3 _ hmem
 simp only at this
 split at this
 ·rename_i m hm'
  have:=Nat.eq_of_beq_eq_true this
  subst this
  show bQ (lV L) ρ' _=_
  unfold bQ
  rw[hm']
  exact hρ _ _ hb
 ·cases this
theorem aj.renorm {P:Program} {f:FuncId} {args:List AV} {L0:List (Nat×bf)} {R R':AV->ag->Prop} (n:Nat) (h:aj P f args (ag.ofL L0) R)
  (hk:∀u M',R u M'->∃(lm:bc) (L:List (Nat×bf)) (u':AV),(fA lm L&&eG L lm&&ve lm (L0.map (·.1)))=true/\bG lm n M' L/\oW lm n u u'/\R' u' (ag.ofL L)):aj P f args (ag.ofL L0) R':=by
 rw[ce] at h⊢
 refine⟨h.1,fun S F ρ vs w hM hv=>(h.2 S F ρ vs w hM hv).mono ?_⟩
 rintro e w' ⟨v,u,M',S',ρ',rfl,hR,hle,hρ,hM',hr,hw⟩
 obtain⟨lm,L,u',hb,hm,ha,hR'⟩:=hk u M' hR
 simp only[Bool.and_eq_true] at hb
 obtain⟨⟨hb1,hb2⟩,hb3⟩:=hb
 refine⟨v,u',_,S',bQ lm ρ',rfl,hR',hle,fun ℓ b hb=>?_,hM'.relabel hm hb1 hb2,(eU n).1 u u' v ha hr,hw⟩
 have hd:=hM.dom ℓ b hb
 obtain⟨B,hB⟩:∃B,ag.ofL L0 ℓ=some B:=by
  cases h:ag.ofL L0 ℓ with
  |none=>exact absurd h hd
  |some B=>exact⟨B,rfl⟩
 have hmem:=List.mem_map_of_mem (f:=(·.1)) (fR hB)
 have:=List.all_eq_true.1 hb3 _ hmem
 simp only at this
 split at this
 ·rename_i m hm'
  have:=Nat.eq_of_beq_eq_true this
  subst this
  show bQ lm ρ' _=_
  unfold bQ
  rw[hm']
  exact hρ _ _ hb
 ·cases this
section
variable {P:Program} {tt:TT} {D:List Nat}
theorem aJ.loopF (hT:bn P tt=true) (hm:P.follows .mixedOrders=true) {c:Code} {fr:List AV} {M:ag} {Q:dY} {X:Type _} (I:X->Prop) (us:X->List (Nat×AV)) (L:X->List (Nat×bf)) (μ:X->Nat) (x0:X) (hi:I x0)
  (h:tg (mr c []) fun ms=>th fr 0 ms fun fr0=>aH D fr M (re fr0 (us x0)) (ag.ofL (L x0))/\
   ∀x,I x->yQ fr0 (us x) fun fr1=>bX P tt D c fr1 (ag.ofL (L x)) (tf D I (fun x=>re fr0 (us x)) (fun x=>ag.ofL (L x)) μ x Q)):aJ P D (.loop c) fr M Q:=by
 rw[qk] at h
 obtain⟨fr0,h0,h⟩:=mt _ _ _ _ h
 refine aJ.loop I (fun x=>re fr0 (us x)) (fun x=>ag.ofL (L x)) μ x0 hi h0 fun x hx=>?_
 have:=h x hx
 rw[tj] at this
 exact js hT hm _ _ _ _ this
end
end
section
theorem aj.dcall {P:Program} {M:ag} {f:FuncId} {args:List AV} {p:Prop} {i:Decidable p} {K:AV->ag->Prop} {n:Nat} (h:ah P f args (fun u=>u= .bool (@decide p i))) (hp:args.all (dl n)=true) (ht:p->K (.bool true) M) (hf:¬p->K (.bool false) M):aj P f args M K:=
 aj.of_pure (n:=n) h hp fun u hu=>by
  subst hu
  by_cases hh:p
  ·rw[decide_eq_true hh];exact ht hh
  ·rw[decide_eq_false hh];exact hf hh
theorem NV {P:Program} {f:FuncId} {args:List AV} {p:Prop} {i:Decidable p} {K:AV->Prop} (n:Nat) (h:ah P f args (fun u=>u= .bool (@decide p i))) (hp:args.all (dl n)=true) (ht:p->K (.bool true)) (hf:¬p->K (.bool false)):sU P f args K:=
 FT n h hp ⟨_,rfl⟩ fun u hu=>by
  subst hu
  by_cases hh:p
  ·rw[decide_eq_true hh];exact ht hh
  ·rw[decide_eq_false hh];exact hf hh
theorem bE {p:Prop} {i:Decidable p} (h:p):AV.bool true= .bool (@decide p i):=by rw[decide_eq_true h]
theorem aA {p:Prop} {i:Decidable p} (h:¬p):AV.bool false= .bool (@decide p i):=by rw[decide_eq_false h]
def wV (M:ag):AV->AV
 | .row ℓ n sz=>match M ℓ with
  |some (.row _ d enc l)=> .sl d enc l
  |some (.gone d enc l)=> .sl d enc l
  |_=> .row ℓ n sz
 | .ptr ℓ o=>match M ℓ with
  |some (.box _ cells)=>match cD cells with
   |true=> .pd (cells.drop o)
   |false=> .ptr ℓ o
  |_=> .ptr ℓ o
 |u=>u
def Jd (M:ag):AV->AV
 | .agg cs=> .agg (cs.map (wV M))
 | .fn f cs=> .fn f (cs.map (wV M))
 |u=>wV M u
def F4:bf->Bool
 | .row _ _ _ _=>true
 | .box _ _=>true
 | .hdr _ _ _=>true
 |_=>false
def yR:AV->Bool
 | .int _ _| .bool _| .str _| .nilsl| .top=>true
 |_=>false
def F5:AV->Bool
 | .tup cs=>cs.all yR
 | .agg cs=>cs.all yR
 |u=>yR u
section
variable {P:Program} {S F:ai} {ρ:aE} {M:ag} {w:World}
def mu (ρ:aE) (M:ag) (k:Nat):Prop:=∃ℓ B b,M ℓ=some B/\ρ ℓ=some b/\F4 B=true/\B.live b/\b.blk=k
noncomputable def cG (S:ai) (ρ:aE) (M:ag) (w:World):ai:=fun k=>open Classical in if mu ρ M k then w.heap[k]? else S k
theorem na (hM:aD S F ρ M w) {k:Nat} (h:mu ρ M k):S k=none/\F k=none/\k<w.heap.size:=by
 obtain⟨ℓ,B,b,h1,h2,_,h3,rfl⟩:=h
 obtain⟨b',hb',hr⟩:=hM.blk _ _ h1
 rw[h2] at hb';cases hb'
 exact⟨(hr.off h3).1,(hr.off h3).2,hr.lt h3⟩
theorem mv (hM:aD S F ρ M w):S.le (cG S ρ M w):=by
 intro k o hk
 unfold cG
 split
 ·rename_i h
  rw[(na hM h).1] at hk;cases hk
 ·exact hk
theorem yS (hM:aD S F ρ M w):(cG S ρ M w).inW w:=by
 intro k o hk
 unfold cG at hk
 split at hk
 ·exact hk
 ·exact hM.sw k o hk
theorem rO (hM:aD S F ρ M w) {v:Value} {u:AV} (h:RV S ρ v u):RV (cG S ρ M w) ρ v (wV M u):=by
 have hle:=mv (S:=S) (F:=F) hM
 unfold wV
 split
 ·rename_i ℓ n sz
  split
  ·rename_i t α d enc l hl
   obtain⟨b,hb,hn,hs,hz,rfl⟩:=h.row_inv
   obtain⟨b',hb',hlen,hszs,hcase⟩:=hM.blk _ _ hl
   rw[hb] at hb';cases hb'
   rcases hcase with ⟨hnil,rfl,hcap⟩|⟨hnil,hcap,vs,hheap,hsize,hcell,hS,hF⟩
   ·have e:b.hdr= .slice none 0 0:=by simp only[fh.hdr,hnil,if_true,hcap];simp at hlen;rw[hlen]
    rw[e]
    exact .p (.sl d enc [] none 0 1 (fun _ _=> .int .i64 0) (by simp) (by simp) (by simp) (fun i j hi=>by simp at hi) (by simp) (fun i a j u hi=>by simp at hi))
   ·have e:b.hdr= .slice (some ⟨b.blk,0,none⟩) l.length b.cap:=by simp only[fh.hdr,hnil,hlen];rfl
    rw[e]
    have hl1:cG S ρ M w b.blk=some (.cells vs t (0,0)):=by
     unfold cG
     rw[if_pos ⟨ℓ,_,b,hl,hb,rfl,hnil,rfl⟩]
     exact hheap
    refine .p (.sl d enc l (some ⟨b.blk,0,none⟩) b.cap b.sz (fun i j=>vs.getD (i*b.sz+j) undef) hcap (fun a ha=>(hszs a ha).2) (fun a ha=>(hszs a ha).1) (fun i j hi hj=>⟨_,rfl,?_⟩) (by simp) (fun i a j u hi hu=>?_))
    ·rw[Addr.add_mk]
     have:i*b.sz+j<vs.size:=by
      rw[hsize]
      have:(i+1)*b.sz<=b.cap*b.sz:=Nat.mul_le_mul_right _ (by omega)
      rw[Nat.add_mul] at this
      omega
     unfold ai.cell
     simp only[hl1]
     simp[this]
    ·obtain⟨v,hv,hvr⟩:=hcell i a j u hi hu
     have:vs.getD (i*b.sz+j) undef=v:=by simp[hv]
     rw[this]
     exact hvr.mono hle
  ·rename_i α d enc l hl
   obtain⟨b,hb,hn,hs,hz,rfl⟩:=h.row_inv
   obtain⟨b',hb',hlen,hr⟩:=hM.blk _ _ hl
   rw[hb] at hb';cases hb'
   exact .p (hr.mono hle)
  ·exact h.mono hle (aE.le_refl _)
 ·rename_i ℓ o
  split
  ·rename_i t cells hl
   split
   ·rename_i hp
    obtain⟨b,hb,rfl⟩:=h.ptr_inv
    obtain⟨b',hb',vs,hheap,hvs,hS,hF⟩:=hM.blk _ _ hl
    rw[hb] at hb';cases hb'
    have hps:=(fV hp hvs).1
    have hl1:cG S ρ M w b.blk=some (.cells vs t (0,0)):=by
     unfold cG
     rw[if_pos ⟨ℓ,_,b,hl,hb,rfl,trivial,rfl⟩]
     exact hheap
    refine .p (.pd _ _ (fun j=>vs.getD (o+j) undef) (fun j hj=>?_) (fun j u hu=>?_))
    ·rw[Addr.add_mk]
     have hl2:=hps.1
     have:o+j<vs.size:=by simp at hj hl2;omega
     unfold ai.cell
     simp only[hl1]
     simp[this]
    ·rw[List.getElem?_drop] at hu
     obtain⟨v,hv,hvr⟩:=hps.2 _ u hu
     have hv':vs[o+j]? =some v:=by simpa using hv
     have:vs.getD (o+j) undef=v:=by simp[hv']
     rw[this]
     exact hvr.mono hle
   ·exact h.mono hle (aE.le_refl _)
  ·exact h.mono hle (aE.le_refl _)
 ·exact h.mono hle (aE.le_refl _)
theorem Je (hM:aD S F ρ M w) {v:Value} {u:AV} (h:RV S ρ v u):RV (cG S ρ M w) ρ v (Jd M u):=by
 unfold Jd
 split
 ·rename_i cs
  obtain⟨vs,rfl,hr⟩:=h.agg_inv
  have:bk (cG S ρ M w) ρ vs.toList (cs.map (wV M)):=⟨by simpa using hr.1,fun i u hu=>by
   rw[List.getElem?_map] at hu
   obtain⟨u0,h0,rfl⟩:=Option.map_eq_some_iff.1 hu
   obtain⟨v,hv,hvr⟩:=hr.2 i u0 h0
   exact⟨v,hv,rO hM hvr⟩⟩
  have:=RV.agg_mk this
  simpa using this
 ·rename_i f cs
  obtain⟨vs,rfl,hr⟩:=h.fn_inv
  have:bk (cG S ρ M w) ρ vs.toList (cs.map (wV M)):=⟨by simpa using hr.1,fun i u hu=>by
   rw[List.getElem?_map] at hu
   obtain⟨u0,h0,rfl⟩:=Option.map_eq_some_iff.1 hu
   obtain⟨v,hv,hvr⟩:=hr.2 i u0 h0
   exact⟨v,hv,rO hM hvr⟩⟩
  have:=RV.fn_mk f this
  simpa using this
 ·exact rO hM h
theorem tk {S S':ai} {v:Value} {u:AV} (hf:yR u=true) (h:RP S v u):RP S' v u:=by
 cases h<;>first|(simp[yR] at hf;done)|constructor
theorem F6 {S S':ai} {v:Value} {u:AV} (hf:F5 u=true) (h:RP S v u):RP S' v u:=by
 cases u with
 |tup cs=>
  cases h with
  |tup _ vs hs vals he hv=>exact .tup cs vs hs vals he fun j u hu=>tk (List.all_eq_true.1 hf u (List.mem_of_getElem? hu)) (hv j u hu)
 |agg cs=>
  cases h with
  |agg _ vs hs vals he hv=>exact .agg cs vs hs vals he fun j u hu=>tk (List.all_eq_true.1 hf u (List.mem_of_getElem? hu)) (hv j u hu)
 |_=>exact tk hf h
noncomputable def rf (S':ai) (ρ:aE) (M:ag):ai:=fun k=>open Classical in if mu ρ M k then none else S' k
theorem vw {S':ai} {k:Nat} (h:mu ρ M k):rf S' ρ M k=none:=by unfold rf;rw[if_pos h]
theorem tl {S':ai} {k:Nat} (h:¬mu ρ M k):rf S' ρ M k=S' k:=by unfold rf;rw[if_neg h]
theorem aj.borrowG {f:FuncId} {args args':List AV} {R:AV->Prop} {K:AV->ag->Prop} (h:ah P f args' R) (hconv:∀S F ρ w vs,aD S F ρ M w->bk S ρ vs args->ir (cG S ρ M w) vs args') (hfl:∀u,R u->F5 u=true) (hk:∀u,R u->K u M):aj P f args M K:=by
 rw[ce]
 rw[dM] at h
 refine⟨h.1,?_⟩
 intro S F ρ vs w hM hv
 have hle:=mv (S:=S) (F:=F) hM
 let own:Nat->Prop:=fun ℓ=>∃B,M ℓ=some B/\F4 B=true
 have hargs:=hconv S F ρ w vs hM hv
 have hsf:∀k,cG S ρ M w k=none\/eE F ρ M w own k=none:=by
  intro k
  by_cases hr:mu ρ M k
  ·right
   obtain⟨ℓ,B,b,h1,h2,h3,h4,rfl⟩:=hr
   unfold eE
   rw[if_neg]
   ·exact(na hM ⟨ℓ,B,b,h1,h2,h3,h4,rfl⟩).2.1
   ·rintro⟨y,C,c,g1,g2,g3,g4,g5⟩
    refine hM.inj y ℓ C _ c b g1 h1 g2 h2 g3 h4 (fun e=>?_) g4
    subst e
    exact g5 ⟨B,h1,h3⟩
  ·have e:cG S ρ M w k=S k:=by unfold cG;rw[if_neg hr]
   rw[e]
   exact oV hM k
 refine(h.2 (cG S ρ M w) (eE F ρ M w own) vs w (hM.gl.mono hle) (yS hM) (mZ hM) hsf hargs).mono ?_
 rintro e w' ⟨v,u,S',rfl,hR,hle',hs,hf,hd,hr,hw⟩
 have hS2:S.le (rf S' ρ M):=by
  intro k o hk
  by_cases h:mu ρ M k
  ·rw[(na hM h).1] at hk;cases hk
  ·rw[tl h];exact hle' k o (hle k o hk)
 have hS2':∀k o,rf S' ρ M k=some o->S' k=some o:=by
  intro k o hk
  by_cases h:mu ρ M k
  ·rw[vw h] at hk;cases hk
  ·rw[tl h] at hk;exact hk
 refine⟨v,u,M,rf S' ρ M,ρ,rfl,hk u hR,hS2,aE.le_refl _,⟨fun k o hk=>hs k o (hS2' k o hk),fun k o hk=>hf k o (kv hM k o hk),fun k=>?_,hM.dom,fun ℓ B hB=>?_,hM.inj,hM.gl.mono hS2⟩, .p (F6 (hfl u hR) hr),hw⟩
 ·cases hk2:rf S' ρ M k with
  |none=>exact .inl rfl
  |some o=>
   right
   rcases hd k with h|h
   ·rw[hS2' k o hk2] at h;cases h
   ·cases hk:F k with
    |none=>rfl
    |some o'=>rw[kv hM k o' hk] at h;cases h
 ·obtain⟨b,hb,hrB⟩:=hM.blk _ _ hB
  refine⟨b,hb,hrB.keep hS2 (aE.le_refl _) fun hl=>?_⟩
  have hlt:=hrB.lt hl
  obtain⟨o,ho⟩:∃o,w.heap[b.blk]? =some o:=⟨_,Array.getElem?_eq_getElem hlt⟩
  have hSb:=(hrB.off hl).1
  by_cases hrow:mu ρ M b.blk
  ·have e1:cG S ρ M w b.blk=some o:=by unfold cG;rw[if_pos hrow];exact ho
   refine⟨by rw[hs _ o (hle' _ o e1),ho],?_⟩
   rw[hSb,vw hrow]
  ·have hno:¬own ℓ:=by
    rintro⟨B',h1,h2⟩
    rw[hB] at h1
    cases h1
    exact hrow ⟨ℓ,B,b,hB,hb,h2,hl,rfl⟩
   have hk:=kW (F:=F) (w:=w) (own:=own) hB hb hl hno
   refine⟨by rw[hf b.blk o (hk.trans ho),ho],?_⟩
   rw[hSb,tl hrow]
   rcases hd b.blk with h|h
   ·exact h
   ·rw[hk,ho] at h;cases h
theorem aj.borrow {f:FuncId} {args:List AV} {R:AV->Prop} {K:AV->ag->Prop} {n:Nat} (h:ah P f (args.map (Jd M)) R) (hp:(args.map (Jd M)).all (dl n)=true) (hfl:∀u,R u->F5 u=true) (hk:∀u,R u->K u M):aj P f args M K:=
 aj.borrowG h (fun S F ρ w vs hM hv=>vd hp (S:=cG S ρ M w) (ρ:=ρ) ⟨by simpa using hv.1,fun i u hu=>by
  rw[List.getElem?_map] at hu
  obtain⟨u0,h0,rfl⟩:=Option.map_eq_some_iff.1 hu
  obtain⟨v,hv1,hvr⟩:=hv.2 i u0 h0
  exact⟨v,hv1,Je hM hvr⟩⟩) hfl hk
theorem aH.leak {D:List Nat} {fr fr':List AV} {M':ag} (ℓ:Nat) {t:TypeId} {α:Type} {d:α} {enc:α->List AV} {l:List α} (hl:M ℓ=some (.row t d enc l))
  (h:aH D (fr.map (jQ ℓ (.sl d enc l))) (M.set ℓ (.gone d enc l)) fr' M'):aH D fr M fr' M':=by
 rw[m8] at*
 intro S F ρ0 ρ a w h0 h1 hM hF
 obtain⟨S1,b,hle,hb,hM1,_⟩:=hM.leak hl
 obtain⟨S2,ρ2,k1,k2,k3,k4⟩:=h S1 F ρ0 ρ a w h0 h1 hM1 ⟨⟨by simpa using hF.1.1,fun i u hu=>by
  rw[List.getElem?_map] at hu
  obtain⟨u0,hu0,rfl⟩:=Option.map_eq_some_iff.1 hu
  obtain⟨v,e,hr⟩:=hF.1.2 i u0 hu0
  exact⟨v,e,jq hM1 (ag.set_eq _ _ _) (hr.mono hle (aE.le_refl _))⟩⟩,hF.2⟩
 exact⟨S2,ρ2,ai.le_trans hle k1,k2,k3,k4⟩
end
theorem lI {p:Prop} (h:p:=by simp only[List.length_cons,List.length_nil];omega):p:=h
theorem nI {c k:Prop} (h':k) (h:c:=by first|omega|(dsimp only;omega)):iv c k:=bg h h'
theorem aI {c:Prop} {n:Int} {K:Int->Prop} (h':K n) (hc:c:=by exact trivial) (h:-9223372036854775808<=n/\n<=9223372036854775807:=by omega):kT c .i64 n K:=nK hc h h'
theorem uI {c:Prop} {n:Int} {K:Int->Prop} (h':K n) (hc:c:=by exact trivial) (h:0<=n/\n<=18446744073709551615:=by omega):kT c .u64 n K:=Qx hc h h'
theorem vI {c:Prop} {n:Int} {K:Int->Prop} (h':K n) (hc:c:=by exact trivial) (h:0<=n/\n<=255:=by omega):kT c .u8 n K:=Qy hc h h'
theorem tI {p:Prop} {i:Decidable p} {k:Bool->Prop} (h':k true) (h:p:=by omega):AC p i k:=cO h h'
theorem fI {p:Prop} {i:Decidable p} {k:Bool->Prop} (h':k false) (h:¬p:=by omega):AC p i k:=cX h h'
theorem dI {P:Program} {tt:TT} {ops:List Oper} {fr:List AV} {M:ag} {K:List AV->ag->Prop} (h:cF P tt (some .any) ops ops fr M K) (hB:iy tt .any ops=true:=by decide+kernel):gQ P tt ops fr M K:=F3 hB h
theorem dR {P:Program} {tt:TT} {ops:List Oper} {fr:List AV} {M:ag} {K:List AV->ag->Prop} (h:cF P tt (some .rows) ops ops fr M K) (hB:iy tt .rows ops=true:=by decide+kernel):gQ P tt ops fr M K:=NR hB h
theorem dP {P:Program} {tt:TT} {ops:List Oper} {fr:List AV} {M:ag} {K:List AV->ag->Prop} (h:cF P tt (some .pers) ops ops fr M K) (hB:iy tt .pers ops=true:=by decide+kernel):gQ P tt ops fr M K:=NT hB h
theorem pI {α β:Type} {enc:α->List AV} {l:List α} {enc':β->List AV} {l':List β} {bytes:Nat} {K:List α->Prop} (l'':List α) (h:l''.map enc=l'.map enc') (hk:K l'')
  (hb:(l.length+l'.length)*bytes<=140737488355328:=by first|omega|(dsimp only;omega)|(simp only[List.length_cons,List.length_nil,List.length_append];omega)):AH enc l enc' l' bytes K:=bq l'' h hb hk
theorem dt {g k:Prop} (h':k) (h:k->g:=by first|exact fun h=>nI h|exact fun h=>aI h|exact fun h=>tI h|exact fun h=>fI h):g:=h h'
theorem at_ {g k:Prop} (h':k) (h:k->g:=by first|exact fun h=>nI h|exact fun h=>aI h|exact fun h=>Qx trivial (by omega) h|exact fun h=>Qy trivial (by omega) h|exact fun h=>dI h|exact fun h=>dR h|exact fun h=>dP h|exact fun h=>au rfl h|exact fun h=>pI _ rfl h|exact fun h=>ak _ rfl h|exact fun h=>tI h|exact fun h=>fI h):g:=h h'
theorem oP {P:Program} {M:ag} {f:FuncId} {args:List AV} {v:AV} {K:AV->ag->Prop} (h:ah P f args (fun u=>u=v)) (hk:K v M) (hp:args.all (dl 5)=true:=by exact rfl):aj P f args M K:=
 aj.of_pure (n:=5) h hp fun u hu=>by subst hu;exact hk
theorem oC {P:Program} {f:FuncId} {args:List AV} {v:AV} {K:AV->Prop} (h:ah P f args (fun u=>u=v)) (hk:K v) (hp:args.all (dl 5)=true:=by exact rfl):sU P f args K:=
 FT 5 h hp ⟨_,rfl⟩ fun u hu=>by subst hu;exact hk
theorem dC {P:Program} {M:ag} {f:FuncId} {args:List AV} {p:Prop} {i:Decidable p} {K:AV->ag->Prop} (h:ah P f args (fun u=>u= .bool (@decide p i))) (ht:p->K (.bool true) M) (hf:¬p->K (.bool false) M) (hp:args.all (dl 5)=true:=by exact rfl):aj P f args M K:=
 aj.dcall (n:=5) h hp ht hf
theorem dD {P:Program} {f:FuncId} {args:List AV} {p:Prop} {i:Decidable p} {K:AV->Prop} (h:ah P f args (fun u=>u= .bool (@decide p i))) (ht:p->K (.bool true)) (hf:¬p->K (.bool false)) (hp:args.all (dl 5)=true:=by exact rfl):sU P f args K:=
 NV 5 h hp ht hf
end
end Go.Proofs.YtekmminpfhacpaaGreatDoor
