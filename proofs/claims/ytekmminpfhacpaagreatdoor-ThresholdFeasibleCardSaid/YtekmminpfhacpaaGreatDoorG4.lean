import Derived.Test.YtekmminpfhacpaaGreatDoorG3
import Derived.Scope
set_option linter.unusedVariables false
set_option linter.unusedSimpArgs false
namespace Go.Proofs.YtekmminpfhacpaaGreatDoor
section
inductive Ry
 |normal
 |exit (id:Nat)
 |ret
def Kl:Exit->Option Ry
 | .normal=>some .normal
 | .exit id=>some (.exit id)
 | .ret=>some .ret
 |_=>none
abbrev dy:=Ry->List AV->ac->Prop
def te (ρ:aB) (D:List Nat):Prop:=∀ℓ b,ρ ℓ=some b->ℓ∈D
structure a8 (P:Program) (D:List Nat) (c:Code) (fr:List AV) (M:ac) (Q:dy):Prop where
 out:∀S F ρ0 ρ a w,te ρ0 D->aB.le ρ0 ρ->az S F ρ M w->fk S ρ a fr->c.wp P (fun e a' w'=>∃x,Kl e=some x/\dh S F ρ0 w (Q x) a' w') a w
theorem c8 {P:Program} {D:List Nat} {c:Code} {fr:List AV} {M:ac} {Q:dy}:a8 P D c fr M Q↔(∀S F ρ0 ρ a w,te ρ0 D->aB.le ρ0 ρ->az S F ρ M w->fk S ρ a fr->c.wp P (fun e a' w'=>∃x,Kl e=some x/\dh S F ρ0 w (Q x) a' w') a w):=⟨fun h=>h.out,fun h=>⟨h⟩⟩
structure gx (P:Program) (tt:TT) (ops:List Oper) (fr:List AV) (M:ac) (K:List AV->ac->Prop):Prop where
 out:(∃r,ig tt r ops=true/\cD P tt (some r) ops ops fr M K)\/(∃r ds,lg tt r ds ops=true/\vr P tt r ds ops ops fr M K)\/∃d,be P tt d ops K ops.length [] fr M
theorem d5 {P:Program} {tt:TT} {ops:List Oper} {fr:List AV} {M:ac} {K:List AV->ac->Prop}:gx P tt ops fr M K↔((∃r,ig tt r ops=true/\cD P tt (some r) ops ops fr M K)\/(∃r ds,lg tt r ds ops=true/\vr P tt r ds ops ops fr M K)\/∃d,be P tt d ops K ops.length [] fr M):=⟨fun h=>h.out,fun h=>⟨h⟩⟩
theorem Gd {P:Program} {tt:TT} {ops:List Oper} {fr:List AV} {M:ac} {K:List AV->ac->Prop} (hB:ig tt .any ops=true) (h:cD P tt (some .any) ops ops fr M K):gx P tt ops fr M K:=by
 rw[d5];exact .inl ⟨_,hB,h⟩
theorem P0 {P:Program} {tt:TT} {ops:List Oper} {fr:List AV} {M:ac} {K:List AV->ac->Prop} (hB:ig tt .rows ops=true) (h:cD P tt (some .rows) ops ops fr M K):gx P tt ops fr M K:=by
 rw[d5];exact .inl ⟨_,hB,h⟩
theorem lP {P:Program} {tt:TT} {ops:List Oper} {fr:List AV} {M:ac} {K:List AV->ac->Prop} (hB:ig tt .flat ops=true) (h:cD P tt (some .flat) ops ops fr M K):gx P tt ops fr M K:=by
 rw[d5];exact .inl ⟨_,hB,h⟩
theorem lQ {P:Program} {tt:TT} {ops:List Oper} {fr:List AV} {M:ac} {K:List AV->ac->Prop} (hB:ig tt .own ops=true) (h:cD P tt (some .own) ops ops fr M K):gx P tt ops fr M K:=by
 rw[d5];exact .inl ⟨_,hB,h⟩
theorem CA {P:Program} {tt:TT} {ops:List Oper} {fr:List AV} {M:ac} {K:List AV->ac->Prop} (as:List (Nat×Nat)) (hB:ig tt (.boxes as) ops=true) (h:cD P tt (some (.boxes as)) ops ops fr M K):gx P tt ops fr M K:=by
 rw[d5];exact .inl ⟨_,hB,h⟩
theorem tf {P:Program} {tt:TT} {ops:List Oper} {fr:List AV} {M:ac} {K:List AV->ac->Prop} (r:aG) (ds:List Nat) (hB:lg tt r ds ops=true) (h:vr P tt r ds ops ops fr M K):gx P tt ops fr M K:=by
 rw[d5];exact .inr (.inl ⟨_,_,hB,h⟩)
theorem o9 {P:Program} {tt:TT} {ops:List Oper} {fr:List AV} {M:ac} {K:List AV->ac->Prop} (h:be P tt (some .own) ops K ops.length [] fr M):gx P tt ops fr M K:=by
 rw[d5];exact .inr (.inr ⟨_,h⟩)
theorem P1 {P:Program} {tt:TT} {ops:List Oper} {fr:List AV} {M:ac} {K:List AV->ac->Prop} (h:be P tt none ops K ops.length [] fr M):gx P tt ops fr M K:=by
 rw[d5];exact .inr (.inr ⟨_,h⟩)
theorem P2 {P:Program} {tt:TT} {ops:List Oper} {fr:List AV} {M:ac} {K:List AV->ac->Prop} (hB:ig tt .pers ops=true) (h:cD P tt (some .pers) ops ops fr M K):gx P tt ops fr M K:=by
 rw[d5];exact .inl ⟨_,hB,h⟩
def bO (P:Program) (tt:TT) (D:List Nat):Code->List AV->ac->dy->Prop
 | .skip,fr,M,Q=>Q .normal fr M
 | .region _ ops draw,fr,M,Q=>match draw with
  |false=>cD P tt none ops.toList ops.toList fr M (Q .normal)
  |true=>gx P tt ops.toList fr M (Q .normal)
 | .seq a b,fr,M,Q=>bO P tt D a fr M fun e fr' M'=>match e with
  | .normal=>bO P tt D b fr' M' Q
  | .exit i=>Q (.exit i) fr' M'
  | .ret=>Q .ret fr' M'
 | .cond c x y,fr,M,Q=>Rc fr c fun u=>match u with
  | .bool true=>bO P tt D x fr M Q
  | .bool false=>bO P tt D y fr M Q
  |_=>False
 | .block id c,fr,M,Q=>bO P tt D c fr M fun e fr' M'=>match e with
  | .normal=>Q .normal fr' M'
  | .exit i=>match Nat.beq i id with
   |true=>Q .normal fr' M'
   |false=>Q (.exit i) fr' M'
  | .ret=>Q .ret fr' M'
 | .exit id,fr,M,Q=>Q (.exit id) fr M
 | .ret,fr,M,Q=>Q .ret fr M
 | .loop c,fr,M,Q=>a8 P D (.loop c) fr M Q
 | .rangeFunc f ps as c,fr,M,Q=>a8 P D (.rangeFunc f ps as c) fr M Q
 | .scope c,fr,M,Q=>bO P tt D c fr M Q
 | .label _,fr,M,Q=>Q .normal fr M
 | .goto l,fr,M,Q=>a8 P D (.goto l) fr M Q
 | .refuse s,fr,M,Q=>a8 P D (.refuse s) fr M Q
section
variable {P:Program} {tt:TT} {D:List Nat}
theorem a8.mono {c:Code} {fr:List AV} {M:ac} {Q Q':dy} (h:a8 P D c fr M Q) (hq:∀e f M,Q e f M->Q' e f M):a8 P D c fr M Q':=by
 simp only[c8] at*
 intro S F ρ0 ρ a w h0 h1 hM hF
 exact wp_mono (h S F ρ0 ρ a w h0 h1 hM hF) fun e a' w' ⟨x,hx,ha⟩=>⟨x,hx,ha.mono fun f M=>hq x f M⟩
theorem fY (hT:bc P tt=true) (hm:P.follows .mixedOrders=true):∀(c:Code) (fr:List AV) (M:ac) (Q:dy),bO P tt D c fr M Q->a8 P D c fr M Q:=by
 intro c
 induction c with
 |skip=>
  intro fr M Q h
  rw[c8]
  intro S F ρ0 ρ a w h0 h1 hM hF
  exact wp_skip ⟨.normal,rfl,fr,M,S,ρ,h,ah.le_refl _,h1,hM,hF,d4.refl _⟩
 |region id ops draw=>
  intro fr M Q h
  rw[c8]
  intro S F ρ0 ρ a w h0 h1 hM hF
  simp only[bO] at h
  have hQ:∀a' w',dh S F ρ w (Q .normal) a' w'->∃x,Kl .normal=some x/\dh S F ρ0 w (Q x) a' w':=fun a' w' ⟨f,M',S',ρ',k,k1,k2,k3⟩=>⟨.normal,rfl,f,M',S',ρ',k,k1,aB.le_trans h1 k2,k3⟩
  have e:ops=ops.toList.toArray:=by simp
  cases draw with
  |false=>
   rw[e]
   exact wp_region_lit (Cw hT ops.toList S ρ w a fr M h hM hF hQ)
  |true=>
   simp only at h
   rw[d5] at h
   rw[e]
   rcases h with ⟨r,h1,h2⟩|⟨r,ds,h1,h2⟩|⟨d,h2⟩
   ·exact yK hT hm h1 h2 hM hF hQ
   ·exact wF hT hm h1 h2 hM hF hQ
   ·exact wG hT hm h2 hM hF hQ
 |seq x y ihx ihy=>
  intro fr M Q h
  have hx:=ihx fr M _ h
  simp only[c8] at*
  intro S F ρ0 ρ a w h0 h1 hM hF
  refine wp_seq (wp_mono (hx S F ρ0 ρ a w h0 h1 hM hF) ?_)
  rintro e a' w' ⟨ex,he,f,M',S',ρ',k,k1,k2,k3,k4,k5⟩
  cases e with
  |normal=>
   cases he
   refine wp_mono (ihy f M' Q k S' F ρ0 ρ' a' w' h0 k2 k3 k4) ?_
   rintro e2 a2 w2 ⟨ex2,he2,ha⟩
   exact⟨ex2,he2,ha.trans k1 (aB.le_refl _) k5⟩
  |exit i=>cases he;exact⟨_,rfl,f,M',S',ρ',k,k1,k2,k3,k4,k5⟩
  |ret=>cases he;exact⟨_,rfl,f,M',S',ρ',k,k1,k2,k3,k4,k5⟩
  |goto l=>cases he
  |panic l=>cases he
  |outgrown=>cases he
 |cond c x y ihx ihy=>
  intro fr M Q h
  simp only[bO,wB] at h
  rw[c8]
  intro S F ρ0 ρ a w h0 h1 hM hF
  have hc:=hF.eval c
  split at h
  ·rename_i hb
   rw[hb] at hc
   have:=ihx fr M Q h
   rw[c8] at this
   exact wp_cond_true hc.bool_inv (this S F ρ0 ρ a w h0 h1 hM hF)
  ·rename_i hb
   rw[hb] at hc
   have:=ihy fr M Q h
   rw[c8] at this
   exact wp_cond_false hc.bool_inv (this S F ρ0 ρ a w h0 h1 hM hF)
  ·exact h.elim
 |block id c ih=>
  intro fr M Q h
  have hx:=ih fr M _ h
  simp only[c8] at*
  intro S F ρ0 ρ a w h0 h1 hM hF
  refine wp_block (wp_mono (hx S F ρ0 ρ a w h0 h1 hM hF) ?_)
  rintro e a' w' ⟨ex,he,f,M',S',ρ',k,k1,k2,k3,k4,k5⟩
  cases e with
  |normal=>cases he;exact⟨_,rfl,f,M',S',ρ',k,k1,k2,k3,k4,k5⟩
  |exit i=>
   cases he
   simp only[Exit.inBlock]
   simp only at k
   split at k
   ·rename_i hb
    rw[if_pos (Nat.eq_of_beq_eq_true hb)]
    exact⟨_,rfl,f,M',S',ρ',k,k1,k2,k3,k4,k5⟩
   ·rename_i hb
    rw[if_neg (fun e=>by subst e;simp at hb)]
    exact⟨_,rfl,f,M',S',ρ',k,k1,k2,k3,k4,k5⟩
  |ret=>cases he;exact⟨_,rfl,f,M',S',ρ',k,k1,k2,k3,k4,k5⟩
  |goto l=>cases he
  |panic l=>cases he
  |outgrown=>cases he
 |exit id=>
  intro fr M Q h
  rw[c8]
  intro S F ρ0 ρ a w h0 h1 hM hF
  exact wp_exit ⟨_,rfl,fr,M,S,ρ,h,ah.le_refl _,h1,hM,hF,d4.refl _⟩
 |ret=>
  intro fr M Q h
  rw[c8]
  intro S F ρ0 ρ a w h0 h1 hM hF
  exact wp_ret ⟨_,rfl,fr,M,S,ρ,h,ah.le_refl _,h1,hM,hF,d4.refl _⟩
 |loop c _=>intro fr M Q h;exact h
 |rangeFunc f ps as c _ _=>intro fr M Q h;exact h
 |scope c ih=>
  intro fr M Q h
  have h2:=ih fr M Q h
  rw[c8] at h2⊢
  intro S F ρ0 ρ a w h0 h1 hM hF
  refine wp_scope_straight (wp_mono (h2 S F ρ0 ρ a w h0 h1 hM hF) ?_)
  rintro e a' w' ⟨x,hx,ha⟩
  cases e with
  |goto l=>cases hx
  |normal=>exact⟨x,hx,ha⟩
  |exit i=>exact⟨x,hx,ha⟩
  |ret=>exact⟨x,hx,ha⟩
  |panic l=>cases hx
  |outgrown=>cases hx
 |label l=>
  intro fr M Q h
  rw[c8]
  intro S F ρ0 ρ a w h0 h1 hM hF
  exact wp_label ⟨.normal,rfl,fr,M,S,ρ,h,ah.le_refl _,h1,hM,hF,d4.refl _⟩
 |goto l=>intro fr M Q h;exact h
 |refuse s=>intro fr M Q h;exact h
structure bd (D:List Nat) (fr:List AV) (M:ac) (fr':List AV) (M':ac):Prop where
 out:∀S F ρ0 ρ a w,te ρ0 D->aB.le ρ0 ρ->az S F ρ M w->fk S ρ a fr->∃S' ρ',S.le S'/\aB.le ρ0 ρ'/\az S' F ρ' M' w/\fk S' ρ' a fr'
theorem ng {D:List Nat} {fr:List AV} {M:ac} {fr':List AV} {M':ac}:bd D fr M fr' M'↔(∀S F ρ0 ρ a w,te ρ0 D->aB.le ρ0 ρ->az S F ρ M w->fk S ρ a fr->∃S' ρ',S.le S'/\aB.le ρ0 ρ'/\az S' F ρ' M' w/\fk S' ρ' a fr'):=⟨fun h=>h.out,fun h=>⟨h⟩⟩
theorem a8.sub {c:Code} {fr fr':List AV} {M M':ac} {Q:dy} (hs:bd D fr M fr' M') (h:a8 P D c fr' M' Q):a8 P D c fr M Q:=by
 simp only[c8,ng] at*
 intro S F ρ0 ρ a w h0 h1 hM hF
 obtain⟨S',ρ',k1,k2,k3,k4⟩:=hs S F ρ0 ρ a w h0 h1 hM hF
 refine wp_mono (h S' F ρ0 ρ' a w h0 k2 k3 k4) ?_
 rintro e a' w' ⟨x,hx,ha⟩
 exact⟨x,hx,ha.trans k1 (aB.le_refl _) (d4.refl _)⟩
def tg {X:Type _} (D:List Nat) (I:X->Prop) (frI:X->List AV) (MI:X->ac) (μ:X->Nat) (x:X) (Q:dy):dy:=fun e fr M=>match e with
 | .normal=>∃x',bd D fr M (frI x') (MI x')/\I x'/\μ x'<μ x
 | .exit i=>Q (.exit i) fr M
 | .ret=>Q .ret fr M
theorem a8.loop {c:Code} {fr:List AV} {M:ac} {Q:dy} {X:Type _} (I:X->Prop) (frI:X->List AV) (MI:X->ac) (μ:X->Nat) (x0:X) (hi:I x0) (h0:bd D fr M (frI x0) (MI x0))
  (h:∀x,I x->a8 P D c (frI x) (MI x) (tg D I frI MI μ x Q)):a8 P D (.loop c) fr M Q:=by
 refine a8.sub h0 ?_
 rw[c8]
 intro S F ρ0 ρ a w hin h1 hM hF
 have key:∀(n:Nat) (x:X) (S1:ah) (ρ1:aB) (a1:Act) (w1:World),μ x=n->I x->S.le S1->d4 w w1->aB.le ρ0 ρ1->az S1 F ρ1 (MI x) w1->fk S1 ρ1 a1 (frI x)->
   ∀b k cs,∃e a' w',(∃x,Kl e=some x/\dh S F ρ0 w (Q x) a' w')/\Arrives P (lone (b.at a1 (.code c:: .inLoop c::k)) cs w1) b k cs e a' w':=by
  intro n
  induction n using Nat.strongRecOn with
  |_ n ih=>
   intro x S1 ρ1 a1 w1 hn hIx hS hw hρ hM1 hF1 b k cs
   have hx:=h x hIx
   rw[c8] at hx
   obtain⟨e,a2,w2,⟨ex,he,f,M',S2,ρ2,kk,k1,k2,k3,k4,k5⟩,harr⟩:=hx S1 F ρ0 ρ1 a1 w1 hin hρ hM1 hF1 b (.inLoop c::k) cs
   cases e with
   |normal=>
    cases he
    obtain⟨x',hsub,hIx',hlt⟩:=kk
    rw[ng] at hsub
    obtain⟨S3,ρ3,j1,j2,j3,j4⟩:=hsub S2 F ρ0 ρ2 a2 w2 hin k2 k3 k4
    obtain⟨e3,a3,w3,hq,harr3⟩:=ih (μ x') (hn▸hlt) x' S3 ρ3 a2 w2 rfl hIx' (ah.le_trans hS (ah.le_trans k1 j1)) (hw.trans k5) j2 j3 j4 b k cs
    exact⟨e3,a3,w3,hq, .of_steps (Steps.trans harr (.one step_inLoop)) harr3⟩
   |exit i=>cases he;exact⟨_,a2,w2,⟨_,rfl,f,M',S2,ρ2,kk,ah.le_trans hS k1,k2,k3,k4,hw.trans k5⟩, .pass (x:= .inLoop c) rfl (fun _ _=> .inl (by simp)) harr⟩
   |ret=>cases he;exact⟨_,a2,w2,⟨_,rfl,f,M',S2,ρ2,kk,ah.le_trans hS k1,k2,k3,k4,hw.trans k5⟩, .pass (x:= .inLoop c) rfl (fun _ _=> .inl (by simp)) harr⟩
   |goto l=>cases he
   |panic l=>cases he
   |outgrown=>cases he
 intro b k cs
 obtain⟨e,a',w',hq,harr⟩:=key _ x0 S ρ a w rfl hi (ah.le_refl _) (d4.refl _) h1 hM hF b k cs
 exact⟨e,a',w',hq, .of_steps (.one step_loop) harr⟩
end
end
section
section
theorem bd.by_ {D:List Nat} {fr fr':List AV} {M:ac} (lm:aV) (L:List (Nat×aU)) (n:Nat) (hs:(fe lm L&&ee L lm&&u9 lm D)=true) (hm:bD lm n M L) (hf:fV lm n fr fr'):bd D fr M fr' (ac.ofL L):=by
 rw[ng]
 intro S F ρ0 ρ a w h0 h1 hM hF
 rw[Bool.and_eq_true,Bool.and_eq_true] at hs
 refine⟨S,bz lm ρ,ah.le_refl _,fun ℓ b hb=>?_,hM.relabel hm hs.1.1 hs.1.2,(eE n).2 fr fr' _ hf hF.1,hF.2⟩
 have:=List.all_eq_true.1 hs.2 ℓ (h0 ℓ b hb)
 unfold bz
 cases hf:al lm ℓ with
 |none=>rw[hf] at this;cases this
 |some x=>
  rw[hf] at this
  cases x with
  |old m=>
   simp only at this⊢
   rw[Nat.eq_of_beq_eq_true this]
   exact h1 ℓ b hb
  |nil _=>cases this
end
def Km:Nat->(List AV->Prop)->Prop
 |0,k=>k []
 |n+1,k=>Km n fun l=>k (.tup []::l)
theorem CB:∀(n:Nat) (k:List AV->Prop),Km n k=k (List.replicate n (.tup []))
 |0,k=>rfl
 |n+1,k=>by rw[Km,CB n];rfl
def uA:List AV->Nat->(List AV->Prop)->Prop
 |[],n,k=>Km n k
 |u::us,n,k=>uA us n fun l=>k (u::l)
theorem gX:∀(us:List AV) (n:Nat) (k:List AV->Prop),uA us n k=k (us++List.replicate n (.tup []))
 |[],n,k=>by rw[uA,CB];rfl
 |u::us,n,k=>by rw[uA,gX us n];rfl
def qt (tmps:Array Value):ResultVar->Sem Value
 | .tmp t=>pure (tmps.getD t undef)
 | .cell x t=>do loadVar t (<-asAddr (tmps.getD x undef))
def nK (tt:TT) (fr:List AV) (M:ac):List ResultVar->(List AV->Prop)->Prop
 |[],k=>k []
 |r::rs,k=>match r with
  | .tmp t=>wz fr t fun u=>nK tt fr M rs fun us=>k (u::us)
  | .cell a t=>wz fr a fun p=>gH (fS tt t M p) fun u=>nK tt fr M rs fun us=>k (u::us)
def fZ:List AV->AV
 |[u]=>u
 |us=> .tup us
def ji:List AV->ac->(List AV->ac->Prop)->Prop
 |[],M,K=>K [] M
 |u::us,M,K=>match u with
  | .agg cs=>d8 cs M fun cs' M'=>ji us M' fun us' M''=>K (.agg cs'::us') M''
  | .ptr ℓ 0=>match M ℓ with
   |some (.box _ cells)=>match cd cells with
    |true=>ji us (M.set ℓ .dead) fun us' M''=>K (.pd cells::us') M''
    |false=>ji us M fun us' M''=>K (.ptr ℓ 0::us') M''
   |_=>ji us M fun us' M''=>K (.ptr ℓ 0::us') M''
  |u=>d8 [u] M fun x M'=>ji us M' fun us' M''=>K (x++us') M''
section
variable {S F:ah} {ρ:aB} {M:ac} {w:World} {P:Program} {tt:TT}
theorem lh (hT:bc P tt=true) (hM:az S F ρ M w) {a:Act} {fr:List AV} (hF:fk S ρ a fr):∀(rs:List ResultVar) (k:List AV->Prop),nK tt fr M rs k->
  ∃vs us,k us/\ba S ρ vs us/\vs.length=rs.length/\(rs.mapM (qt a.tmps)).run P w= .ok vs w
 |[],k,h=>⟨[],[],h,ba.nil _ _,rfl,by simp⟩
 |r::rs,k,h=>by
  cases r with
  |tmp t=>
   simp only[nK,m8] at h
   obtain⟨vs,us,hk,hv,hl,hr⟩:=lh hT hM hF rs _ h
   exact⟨a.tmps.getD t undef::vs,_,hk,ba.cons (hF.eval (.tmp t)) hv,by simp[hl],by simp[List.mapM_cons,hr,qt]⟩
  |cell x t=>
   simp only[nK,m8] at h
   have hx:=hF.eval (.tmp x)
   obtain⟨v,u,he,hv,h⟩:=FP h (uX (t:=t) hT hM hx).next
   obtain⟨vs,us,hk,hvs,hl,hr⟩:=lh hT hM hF rs _ h
   have he':(Instr.loadAt t (a.eval (.tmp x))).run P w= .ok v w:=by
    simp only[Sem.run_bind] at he
    cases hq:(Instr.loadAt t (a.eval (.tmp x))).run P w with
    |ok y w'=>rw[hq] at he;simp at he;rw[he.1,he.2]
    |halt y w'=>rw[hq] at he;simp at he
   have he2:(qt a.tmps (.cell x t)).run P w= .ok v w:=by
    unfold qt
    have:a.eval (.tmp x)=a.tmps.getD x undef:=rfl
    rw[this] at he'
    show(do loadVar t (<-asAddr (a.tmps.getD x undef)):Sem Value).run P w= .ok v w
    generalize a.tmps.getD x undef=y at he'⊢
    unfold Instr.loadAt Instr.sureAddr at he'
    cases y with
    |pointer ad=>
     cases ad with
     |some ad=>simpa[asAddr] using he'
     |none=>simp at he'
    |_=>simp at he'
   exact⟨v::vs,_,hk,ba.cons hv hvs,by simp[hl],by simp[List.mapM_cons,he2,hr]⟩
theorem f8:∀(us:List AV) (vs:List Value) (S:ah) (M:ac) (K:List AV->ac->Prop),ji us M K->ba S ρ vs us->az S F ρ M w->
  ∃us' M' S',K us' M'/\S.le S'/\ba S' ρ vs us'/\az S' F ρ M' w
 |[],vs,S,M,K,h,hv,hM=>⟨[],M,S,h,ah.le_refl _,hv,hM⟩
 |u::us,vs,S,M,K,h,hv,hM=>by
  obtain⟨x,xs,rfl,hx,hxs⟩:=hv.cons_inv
  simp only[ji] at h
  split at h
  ·rename_i cs
   obtain⟨ys,rfl,hys⟩:=hx.agg_inv
   obtain⟨cs',M1,S1,h,hle,hc,hM1,_⟩:=ie _ _ _ _ _ h hys hM
   obtain⟨us',M',S',hK,hle',hvs',hM'⟩:=f8 us xs S1 M1 _ h (hxs.mono hle (aB.le_refl _)) hM1
   refine⟨_,M',S',hK,ah.le_trans hle hle',ba.cons ?_ hvs',hM'⟩
   have:=RV.agg_mk (hc.mono hle' (aB.le_refl _))
   simpa using this
  ·split at h
   ·rename_i hl
    split at h
    ·rename_i hp
     obtain⟨S1,b,hle,hb,hM1,hr⟩:=hM.leakBox hl (fun j u v hu hv=>by
      have ho:oN u=true:=by
       have:∀(l:List AV),cd l=true->∀u∈l,oN u=true:=by
        intro l
        induction l with
        |nil=>intro _ u hu;cases hu
        |cons a l ih=>
         intro hp u hu
         simp only[cd] at hp
         split at hp
         ·rename_i ha
          rcases List.mem_cons.1 hu with rfl|hu
          ·exact ha
          ·exact ih hp u hu
         ·simp at hp
       exact this _ hp u (List.mem_of_getElem? hu)
      exact(yk ho hv).1)
     obtain⟨us',M',S',hK,hle',hvs',hM'⟩:=f8 us xs S1 _ _ h (hxs.mono hle (aB.le_refl _)) hM1
     obtain⟨b',hb',rfl⟩:=hx.ptr_inv
     rw[hb] at hb';cases hb'
     exact⟨_,M',S',hK,ah.le_trans hle hle',ba.cons (.p (hr.mono hle')) hvs',hM'⟩
    ·obtain⟨us',M',S',hK,hle',hvs',hM'⟩:=f8 us xs S M _ h hxs hM
     exact⟨_,M',S',hK,hle',ba.cons (hx.mono hle' (aB.le_refl _)) hvs',hM'⟩
   ·obtain⟨us',M',S',hK,hle',hvs',hM'⟩:=f8 us xs S M _ h hxs hM
    exact⟨_,M',S',hK,hle',ba.cons (hx.mono hle' (aB.le_refl _)) hvs',hM'⟩
  ·obtain⟨y,M1,S1,h,hle,hc,hM1,_⟩:=ie _ [x] _ _ _ h (ba.cons hx (ba.nil _ _)) hM
   obtain⟨us',M',S',hK,hle',hvs',hM'⟩:=f8 us xs S1 M1 _ h (hxs.mono hle (aB.le_refl _)) hM1
   exact⟨_,M',S',hK,ah.le_trans hle hle',(hc.mono hle' (aB.le_refl _)).append hvs',hM'⟩
theorem mv {vs:List Value} {us:List AV} (hv:ba S ρ vs us):RV S ρ (if h:vs.length=1 then vs[0] else .tuple vs.toArray) (fZ us):=by
 cases us with
 |nil=>rw[hv.nil_inv];simpa[fZ] using RV.tup_mk (ba.nil S ρ)
 |cons u us=>
  obtain⟨x,xs,rfl,hx,hxs⟩:=hv.cons_inv
  cases us with
  |nil=>have:=hxs.nil_inv;subst this;simpa[fZ] using hx
  |cons u2 us=>
   obtain⟨x2,xs2,rfl,_,_⟩:=hxs.cons_inv
   simpa[fZ] using RV.tup_mk hv
def Nx (tt:TT) (rs:List ResultVar) (R:AV->ac->Prop):dy:=fun e fr M=>match e with
 | .normal=>nK tt fr M rs fun us=>R (fZ us) M
 | .ret=>nK tt fr M rs fun us=>R (fZ us) M
 | .exit _=>False
def Kn (tt:TT) (rs:List ResultVar) (R:AV->ac->Prop):dy:=fun e fr M=>match e with
 | .normal=>nK tt fr M rs fun us=>ji us M fun us' M'=>R (fZ us') M'
 | .ret=>nK tt fr M rs fun us=>ji us M fun us' M'=>R (fZ us') M'
 | .exit _=>False
def Ko (tt:TT) (rs:List ResultVar) (R:AV->Prop):dy:=fun e fr M=>match e with
 | .normal=>nK tt fr M rs fun us=>ji us M fun us' _=>R (fZ us')/\cU 5 (fZ us')=true
 | .ret=>nK tt fr M rs fun us=>ji us M fun us' _=>R (fZ us')/\cU 5 (fZ us')=true
 | .exit _=>False
theorem ii {fn:Func} {tmps:Array Value} {vs:List Value} (h:(fn.results.toList.mapM (qt tmps)).run P w= .ok vs w):(results fn tmps).run P w= .ok (if h:vs.length=1 then vs[0] else .tuple vs.toArray) w:=by
 have e:results fn tmps=(do
   let vs <-fn.results.mapM (qt tmps)
   pure (if h:vs.size=1 then vs[0] else .tuple vs)):=by
  unfold results
  congr 2
 rw[e,Array.mapM_eq_mapM_toList]
 simp only[Sem.run_bind,Sem.run_map,h,Result.andThen_ok,Sem.run_pure]
 congr 1
theorem nh {f:FuncId} {fn:Func} {c:Code} {args:List AV} {D:List Nat} (hf:P.funcs[f]? =some fn) (hb:fn.body=some c) {Q:dy}
  (hw:uA args (fn.ntmps-args.length) fun fr=>a8 P D c fr M Q) {ρ0:aB} (hD:te ρ0 D) {vs:List Value} (hM:az S F ρ0 M w) (hv:ba S ρ0 vs args) {R:Ending->World->Prop}
  (hR:∀(e:Ry) a' w',dh S F ρ0 w (Q e) a' w'->a'.defers=[]->(∀i,e≠ .exit i)/\∃v,(results fn a'.tmps).run P w'= .ok v w'/\R (.returned v) w'):Calls P f vs.toArray w R:=by
 rw[gX] at hw
 rw[c8] at hw
 refine calls_of_wp hf hb ?_
 have hlen:=hv.1
 have hF:fk S ρ0 {tmps:=vs.toArray++Array.replicate (fn.ntmps-vs.toArray.size) undef,defers:=[]} (args++List.replicate (fn.ntmps-args.length) (.tup [])):=by
  refine⟨?_,rfl⟩
  have e:(vs.toArray++Array.replicate (fn.ntmps-vs.toArray.size) undef).toList=vs++List.replicate (fn.ntmps-args.length) undef:=by simp[hlen]
  rw[e]
  refine hv.append ⟨by simp,fun i u hu=>?_⟩
  have hi:=(List.getElem?_eq_some_iff.1 hu).1
  simp only[List.length_replicate] at hi
  have hu':u= .tup []:=by
   rw[List.getElem?_replicate] at hu
   simp[hi] at hu
   exact hu.symm
  subst hu'
  exact⟨undef,by simp[hi],RV.tup_mk (ba.nil _ _)⟩
 refine wp_mono (hw S F ρ0 ρ0 _ w hD (aB.le_refl _) hM hF) ?_
 rintro e a' w' ⟨x,hx,ha⟩
 have hd:a'.defers=[]:=by obtain⟨_,_,_,_,_,_,_,_,hF',_⟩:=ha;exact hF'.2
 obtain⟨h1,v,h2,h3⟩:=hR x a' w' ha hd
 cases e with
 |normal=>exact⟨hd,v,h2,h3⟩
 |ret=>exact⟨hd,v,h2,h3⟩
 |exit i=>cases hx;exact absurd rfl (h1 i)
 |goto l=>cases hx
 |panic l=>cases hx
 |outgrown=>cases hx
theorem mw {f:FuncId} {fn:Func} {c:Code} (hf:P.funcs[f]? =some fn) (hb:fn.body=some c) (hn:(fn.name== "runtime.NumGoroutine")=false):rb P f:=⟨fn,hf,hn,by rw[hb];rfl⟩
theorem aj.intro (hT:bc P tt=true) (hm:P.follows .mixedOrders=true) {f:FuncId} {fn:Func} {c:Code} {args:List AV} (L:List (Nat×aU)) {R:AV->ac->Prop} (hf:P.funcs[f]? =some fn) (hb:fn.body=some c) (hn:(fn.name== "runtime.NumGoroutine")=false)
  (h:uA args (fn.ntmps-args.length) fun fr=>bO P tt (L.map (·.1)) c fr (ac.ofL L) (Nx tt fn.results.toList R)):aj P f args (ac.ofL L) R:=by
 rw[bB]
 refine⟨mw hf hb hn,fun S F ρ vs w hM hv=>?_⟩
 have hD:te ρ (L.map (·.1)):=fun ℓ b hb=>by
  have:=hM.dom ℓ b hb
  cases hB:ac.ofL L ℓ with
  |none=>exact absurd hB this
  |some B=>exact List.mem_map_of_mem (f:=(·.1)) (fy hB)
 refine nh (D:=L.map (·.1)) (Q:=Nx tt fn.results.toList R) hf hb ?_ hD hM hv fun e a' w' ha hd=>?_
 ·rw[gX] at h⊢;exact fY hT hm c _ _ _ h
 ·obtain⟨fr,M',S',ρ',hk,h1,h2,h3,h4,h5⟩:=ha
  have fin:nK tt fr M' fn.results.toList (fun us=>R (fZ us) M')->∃v,(results fn a'.tmps).run P w'= .ok v w'/\ml S F ρ w R (.returned v) w':=by
   intro hk
   obtain⟨vs',us,hK,hvs,hl,hr⟩:=lh hT h3 h4 _ _ hk
   exact⟨_,ii hr,_,_,M',S',ρ',rfl,hK,h1,h2,h3,mv hvs,h5⟩
  cases e with
  |normal=>exact⟨by simp,fin hk⟩
  |ret=>exact⟨by simp,fin hk⟩
  |exit i=>exact hk.elim
theorem aj.introL (hT:bc P tt=true) (hm:P.follows .mixedOrders=true) {f:FuncId} {fn:Func} {c:Code} {args:List AV} (L:List (Nat×aU)) {R:AV->ac->Prop} (hf:P.funcs[f]? =some fn) (hb:fn.body=some c) (hn:(fn.name== "runtime.NumGoroutine")=false)
  (h:uA args (fn.ntmps-args.length) fun fr=>bO P tt (L.map (·.1)) c fr (ac.ofL L) (Kn tt fn.results.toList R)):aj P f args (ac.ofL L) R:=by
 rw[bB]
 refine⟨mw hf hb hn,fun S F ρ vs w hM hv=>?_⟩
 have hD:te ρ (L.map (·.1)):=fun ℓ b hb=>by
  have:=hM.dom ℓ b hb
  cases hB:ac.ofL L ℓ with
  |none=>exact absurd hB this
  |some B=>exact List.mem_map_of_mem (f:=(·.1)) (fy hB)
 refine nh (D:=L.map (·.1)) (Q:=Kn tt fn.results.toList R) hf hb ?_ hD hM hv fun e a' w' ha hd=>?_
 ·rw[gX] at h⊢;exact fY hT hm c _ _ _ h
 ·obtain⟨fr,M',S',ρ',hk,h1,h2,h3,h4,h5⟩:=ha
  have fin:(nK tt fr M' fn.results.toList fun us=>ji us M' fun us' M''=>R (fZ us') M'')->∃v,(results fn a'.tmps).run P w'= .ok v w'/\ml S F ρ w R (.returned v) w':=by
   intro hk
   obtain⟨vs',us,hK,hvs,hl,hr⟩:=lh hT h3 h4 _ _ hk
   obtain⟨us',M2,S2,hR,hle,hvs2,hM2⟩:=f8 _ _ _ _ _ hK hvs h3
   exact⟨_,ii hr,_,_,M2,S2,ρ',rfl,hR,ah.le_trans h1 hle,h2,hM2,mv hvs2,h5⟩
  cases e with
  |normal=>exact⟨by simp,fin hk⟩
  |ret=>exact⟨by simp,fin hk⟩
  |exit i=>exact hk.elim
theorem ab.intro (hT:bc P tt=true) (hm:P.follows .mixedOrders=true) {f:FuncId} {fn:Func} {c:Code} {args:List AV} {R:AV->Prop} (hf:P.funcs[f]? =some fn) (hb:fn.body=some c) (hn:(fn.name== "runtime.NumGoroutine")=false)
  (h:uA args (fn.ntmps-args.length) fun fr=>bO P tt [] c fr ac.none (Ko tt fn.results.toList R)):ab P f args R:=by
 rw[cZ]
 refine⟨mw hf hb hn,fun S F vs w hg hs hfr hd hv=>?_⟩
 refine nh (M:=ac.none) (ρ0:=fun _=>none) (D:=[]) (Q:=Ko tt fn.results.toList R) hf hb ?_ (fun ℓ b hb=>by cases hb) ⟨hs,hfr,hd,by simp,by simp[ac.none],by simp,hg⟩ (hv.rv _) fun e a' w' ha hd'=>?_
 ·rw[gX] at h⊢;exact fY hT hm c _ _ _ h
 ·obtain⟨fr,M',S',ρ',hk,h1,h2,h3,h4,h5⟩:=ha
  have fin:(nK tt fr M' fn.results.toList fun us=>ji us M' fun us' _=>R (fZ us')/\cU 5 (fZ us')=true)->∃v,(results fn a'.tmps).run P w'= .ok v w'/\oV S F w R (.returned v) w':=by
   intro hk
   obtain⟨vs',us,hK,hvs,hl,hr⟩:=lh hT h3 h4 _ _ hk
   obtain⟨us',M2,S2,⟨hR,hp⟩,hle,hvs2,hM2⟩:=f8 _ _ _ _ _ hK hvs h3
   exact⟨_,ii hr,_,_,S2,rfl,hR,ah.le_trans h1 hle,hM2.sw,hM2.fw,hM2.sf,ke 5 hp (mv hvs2),h5⟩
  cases e with
  |normal=>exact⟨by simp,fin hk⟩
  |ret=>exact⟨by simp,fin hk⟩
  |exit i=>exact hk.elim
theorem ab.introZ (ti:TypeId) (hT:bc P tt=true) (hm:P.follows .mixedOrders=true) {f:FuncId} {fn:Func} {c:Code} {args:List AV} {R:AV->Prop} (hf:P.funcs[f]? =some fn) (hb:fn.body=some c) (hn:(fn.name== "runtime.NumGoroutine")=false)
  (h:uA args (fn.ntmps-args.length) fun fr=>bO P tt [9998] c fr (ac.ofL [(9998, .row ti (0:Int) ak [])]) (Ko tt fn.results.toList R)):ab P f args R:=by
 rw[cZ]
 refine⟨mw hf hb hn,fun S F vs w hg hs hfr hd hv=>?_⟩
 have h0:az S F (aB.set (fun _=>none) 9998 ⟨0,0,0,1,true⟩) (ac.none.set 9998 (.row ti (0:Int) ak [])) w:=
  az.add (ρ:=fun _=>none) (M:=ac.none) ⟨hs,hfr,hd,by simp,by simp[ac.none],by simp,hg⟩ rfl _ _ (fun _ _ _ h1=>by cases h1) ⟨rfl,by simp, .inl ⟨rfl,rfl,rfl⟩⟩
 have e0:ac.none.set 9998 (.row ti (0:Int) ak [])=ac.ofL [(9998, .row ti (0:Int) ak [])]:=by
  funext x
  unfold ac.set ac.ofL
  cases h1:Nat.beq x 9998 with
  |true=>rw[Nat.eq_of_beq_eq_true h1]
  |false=>
   have:Nat.beq 9998 x=false:=by rw[Bool.eq_false_iff];intro e;rw[Nat.eq_of_beq_eq_true e] at h1;rw[Nat.beq_refl] at h1;cases h1
   rw[this];rfl
 rw[e0] at h0
 refine nh (D:=[9998]) (Q:=Ko tt fn.results.toList R) hf hb ?_ (fun ℓ b hb=>?_) h0 (hv.rv _) fun e a' w' ha hd'=>?_
 ·rw[gX] at h⊢;exact fY hT hm c _ _ _ h
 ·by_cases e:ℓ=9998
  ·exact List.mem_singleton.2 e
  ·rw[aB.set_ne _ _ e] at hb;cases hb
 ·obtain⟨fr,M',S',ρ',hk,h1,h2,h3,h4,h5⟩:=ha
  have fin:(nK tt fr M' fn.results.toList fun us=>ji us M' fun us' _=>R (fZ us')/\cU 5 (fZ us')=true)->∃v,(results fn a'.tmps).run P w'= .ok v w'/\oV S F w R (.returned v) w':=by
   intro hk
   obtain⟨vs',us,hK,hvs,hl,hr⟩:=lh hT h3 h4 _ _ hk
   obtain⟨us',M2,S2,⟨hR,hp⟩,hle,hvs2,hM2⟩:=f8 _ _ _ _ _ hK hvs h3
   exact⟨_,ii hr,_,_,S2,rfl,hR,ah.le_trans h1 hle,hM2.sw,hM2.fw,hM2.sf,ke 5 hp (mv hvs2),h5⟩
  cases e with
  |normal=>exact⟨by simp,fin hk⟩
  |ret=>exact⟨by simp,fin hk⟩
  |exit i=>exact hk.elim
end
end
section
section
variable {M:ac} {P:Program}
theorem Eo (ℓ:Nat) (B:aU) (M:ac):aY [(ℓ,B)] M=M.set ℓ B:=by
 funext x
 simp only[aY,ac.ofL,ac.set]
 by_cases h:x=ℓ
 ·subst h;simp
 ·have h1:Nat.beq ℓ x=false:=by rw[Bool.eq_false_iff];intro hh;exact h (Nat.eq_of_beq_eq_true hh).symm
  have h2:Nat.beq x ℓ=false:=by rw[Bool.eq_false_iff];intro hh;exact h (Nat.eq_of_beq_eq_true hh)
  simp[h1,h2]
def newRow (n sz:Nat) (B:aU):AV->ac->Prop:=fun u M=>∃ℓ0,u= .row ℓ0 n sz/\jx [] 1 (M ℓ0) B
theorem aj.fresh {f:FuncId} {args:List AV} {K:AV->ac->Prop} {n sz:Nat} {t:TypeId} {α:Type} {d:α} {enc:α->List AV} {l:List α} (ℓ:Nat)
  (h:aj P f args (ac.ofL []) (fun u M=>∃ℓ0,u= .row ℓ0 n sz/\M ℓ0=some (.row t d enc l))) (hf:(M ℓ).isNone=true) (ha:fV [] 400 args args)
  (hk:K (.row ℓ n sz) (M.set ℓ (.row t d enc l))):aj P f args M K:=by
 refine aj.call [] [] 400 rfl trivial ha h ?_
 rintro u M' ⟨ℓ0,rfl,e⟩
 refine⟨[(ℓ, .old ℓ0)],[(ℓ, .row t d enc l)], .row ℓ n sz,?_,?_,?_,?_⟩
 ·simp[fe,ee,gV,oX,Cq,sT,ac.ofL,hf]
 ·simp[bD,al,jx,e]
 ·simp[lU,al]
 ·rw[Eo];exact hk
theorem aj.news {f:FuncId} {args:List AV} {K:AV->ac->Prop} {R:AV->ac->Prop} (n:Nat) (lb:aV) (L2:List (Nat×aU)) (u':AV) (h:aj P f args (ac.ofL []) R) (ha:fV [] n args args)
  (hb:(fe lb L2&&ee L2 lb&&Cq [] lb&&sT [] lb M)=true) (hr:∀u M',R u M'->bD lb n M' L2/\lU lb n u u') (hk:K u' (aY L2 M)):aj P f args M K:=
 aj.call [] [] n rfl trivial ha h fun u M' hR=>⟨lb,L2,u',hb,(hr u M' hR).1,(hr u M' hR).2,hk⟩
end
end
section
def wH:List Oper->List Nat->List Nat
 |[],r=>r
 |o::l,r=>match o.dst with
  |some d=>d::wH l r
  |none=>wH l r
def my:Code->List Nat->List Nat
 | .region _ ops _,r=>wH ops.toList r
 | .seq a b,r=>my a (my b r)
 | .cond _ a b,r=>my a (my b r)
 | .block _ a,r=>my a r
 | .loop a,r=>my a r
 | .rangeFunc _ ps a b,r=>ps.toList++my a (my b r)
 | .scope a,r=>my a r
 |_,r=>r
def th:List Nat->(List Nat->Prop)->Prop
 |[],k=>k []
 |n::l,k=>th l fun l'=>k (n::l')
theorem qu:∀(l:List Nat) (k:List Nat->Prop),th l k=k l
 |[],_=>rfl
 |n::l,k=>by rw[th,qu l]
def P3:List Nat->Nat->Bool
 |[],_=>false
 |n::l,i=>match Nat.beq n i with|true=>true|false=>P3 l i
def tj:List AV->Nat->List Nat->(List AV->Prop)->Prop
 |[],_,_,k=>k []
 |u::fr,i,ms,k=>match P3 ms i with
  |true=>tj fr (Nat.succ i) ms fun r=>k (.top::r)
  |false=>match u with
   | .tup _=>tj fr (Nat.succ i) ms fun r=>k (.top::r)
   |u=>tj fr (Nat.succ i) ms fun r=>k (u::r)
theorem mz:∀(fr:List AV) (i:Nat) (ms:List Nat) (k:List AV->Prop),tj fr i ms k->∃fr0,k fr0
 |[],_,_,k,h=>⟨[],h⟩
 |u::fr,i,ms,k,h=>by
  unfold tj at h
  split at h
  ·obtain⟨r,hr⟩:=mz fr _ _ _ h;exact⟨_,hr⟩
  ·split at h
   ·obtain⟨r,hr⟩:=mz fr _ _ _ h;exact⟨_,hr⟩
   ·obtain⟨r,hr⟩:=mz fr _ _ _ h;exact⟨_,hr⟩
def rh:List AV->List (Nat×AV)->List AV
 |fr,[]=>fr
 |fr,(i,u)::us=>rh (fr.set i u) us
def yO:List AV->List (Nat×AV)->(List AV->Prop)->Prop
 |fr,[],k=>k fr
 |fr,(i,u)::us,k=>nJ fr i u fun fr'=>yO fr' us k
theorem tk:∀(us:List (Nat×AV)) (fr:List AV) (k:List AV->Prop),yO fr us k=k (rh fr us)
 |[],_,_=>rfl
 |(i,u)::us,fr,k=>by rw[yO,wA,tk us];rfl
def n7 (L:List (Nat×aU)):aV:=L.map fun p=>(p.1, .old p.1)
theorem bd.id_ {D:List Nat} {fr fr':List AV} {M:ac} {L:List (Nat×aU)} (n:Nat) (hs:(fe (n7 L) L&&ee L (n7 L)&&u9 (n7 L) D)=true) (hm:bD (n7 L) n M L) (hf:fV (n7 L) n fr fr'):bd D fr M fr' (ac.ofL L):=
 bd.by_ (n7 L) L n hs hm hf
theorem sI {D:List Nat} {fr fr':List AV} {M:ac} {L:List (Nat×aU)} (hm:bD (n7 L) 400 M L:=by repeat' (first|exact True.intro|exact rfl|(refine And.intro ?_ ?_)|((conv=>whnf);omega)|((conv=>whnf);simp only[List.length_append,List.length_cons,List.length_nil];done)|((conv=>whnf);simp only[List.length_append,List.length_cons,List.length_nil];omega))) (hf:fV (n7 L) 400 fr fr':=by repeat' (first|exact True.intro|exact rfl|(refine And.intro ?_ ?_)|((conv=>whnf);omega)|((conv=>whnf);simp only[List.length_append,List.length_cons,List.length_nil];done)|((conv=>whnf);simp only[List.length_append,List.length_cons,List.length_nil];omega))) (hs:(fe (n7 L) L&&ee L (n7 L)&&u9 (n7 L) D)=true:=by exact rfl):bd D fr M fr' (ac.ofL L):=bd.id_ 400 hs hm hf
theorem aj.norm {P:Program} {f:FuncId} {args:List AV} {L0:List (Nat×aU)} {R R':AV->ac->Prop} (n:Nat) (h:aj P f args (ac.ofL L0) R)
  (hk:∀u M',R u M'->∃(L:List (Nat×aU)) (u':AV),(fe (n7 L) L&&ee L (n7 L)&&u9 (n7 L) (L0.map (·.1)))=true/\bD (n7 L) n M' L/\lU (n7 L) n u u'/\R' u' (ac.ofL L)):aj P f args (ac.ofL L0) R':=by
 rw[bB] at h⊢
 refine⟨h.1,fun S F ρ vs w hM hv=>(h.2 S F ρ vs w hM hv).mono ?_⟩
 rintro e w' ⟨v,u,M',S',ρ',rfl,hR,hle,hρ,hM',hr,hw⟩
 obtain⟨L,u',hb,hm,ha,hR'⟩:=hk u M' hR
 simp only[Bool.and_eq_true] at hb
 obtain⟨⟨hb1,hb2⟩,hb3⟩:=hb
 refine⟨v,u',_,S',bz (n7 L) ρ',rfl,hR',hle,fun ℓ b hb=>?_,hM'.relabel hm hb1 hb2,(eE n).1 u u' v ha hr,hw⟩
 have hd:=hM.dom ℓ b hb
 obtain⟨B,hB⟩:∃B,ac.ofL L0 ℓ=some B:=by
  cases h:ac.ofL L0 ℓ with
  |none=>exact absurd h hd
  |some B=>exact⟨B,rfl⟩
 have hmem:=List.mem_map_of_mem (f:=(·.1)) (fy hB)
 have:=List.all_eq_true.1 hb3 _ hmem
 simp only at this
 split at this
 ·rename_i m hm'
  have:=Nat.eq_of_beq_eq_true this
  subst this
  show bz (n7 L) ρ' _=_
  unfold bz
  rw[hm']
  exact hρ _ _ hb
 ·cases this
theorem aj.renorm {P:Program} {f:FuncId} {args:List AV} {L0:List (Nat×aU)} {R R':AV->ac->Prop} (n:Nat) (h:aj P f args (ac.ofL L0) R)
  (hk:∀u M',R u M'->∃(lm:aV) (L:List (Nat×aU)) (u':AV),(fe lm L&&ee L lm&&u9 lm (L0.map (·.1)))=true/\bD lm n M' L/\lU lm n u u'/\R' u' (ac.ofL L)):aj P f args (ac.ofL L0) R':=by
 rw[bB] at h⊢
 refine⟨h.1,fun S F ρ vs w hM hv=>(h.2 S F ρ vs w hM hv).mono ?_⟩
 rintro e w' ⟨v,u,M',S',ρ',rfl,hR,hle,hρ,hM',hr,hw⟩
 obtain⟨lm,L,u',hb,hm,ha,hR'⟩:=hk u M' hR
 simp only[Bool.and_eq_true] at hb
 obtain⟨⟨hb1,hb2⟩,hb3⟩:=hb
 refine⟨v,u',_,S',bz lm ρ',rfl,hR',hle,fun ℓ b hb=>?_,hM'.relabel hm hb1 hb2,(eE n).1 u u' v ha hr,hw⟩
 have hd:=hM.dom ℓ b hb
 obtain⟨B,hB⟩:∃B,ac.ofL L0 ℓ=some B:=by
  cases h:ac.ofL L0 ℓ with
  |none=>exact absurd h hd
  |some B=>exact⟨B,rfl⟩
 have hmem:=List.mem_map_of_mem (f:=(·.1)) (fy hB)
 have:=List.all_eq_true.1 hb3 _ hmem
 simp only at this
 split at this
 ·rename_i m hm'
  have:=Nat.eq_of_beq_eq_true this
  subst this
  show bz lm ρ' _=_
  unfold bz
  rw[hm']
  exact hρ _ _ hb
 ·cases this
section
variable {P:Program} {tt:TT} {D:List Nat}
theorem a8.loopF (hT:bc P tt=true) (hm:P.follows .mixedOrders=true) {c:Code} {fr:List AV} {M:ac} {Q:dy} {X:Type _} (I:X->Prop) (us:X->List (Nat×AV)) (L:X->List (Nat×aU)) (μ:X->Nat) (x0:X) (hi:I x0)
  (h:th (my c []) fun ms=>tj fr 0 ms fun fr0=>bd D fr M (rh fr0 (us x0)) (ac.ofL (L x0))/\
   ∀x,I x->yO fr0 (us x) fun fr1=>bO P tt D c fr1 (ac.ofL (L x)) (tg D I (fun x=>rh fr0 (us x)) (fun x=>ac.ofL (L x)) μ x Q)):a8 P D (.loop c) fr M Q:=by
 rw[qu] at h
 obtain⟨fr0,h0,h⟩:=mz _ _ _ _ h
 refine a8.loop I (fun x=>rh fr0 (us x)) (fun x=>ac.ofL (L x)) μ x0 hi h0 fun x hx=>?_
 have:=h x hx
 rw[tk] at this
 exact fY hT hm _ _ _ _ this
end
end
section
theorem aj.dcall {P:Program} {M:ac} {f:FuncId} {args:List AV} {p:Prop} {i:Decidable p} {K:AV->ac->Prop} {n:Nat} (h:ab P f args (fun u=>u= .bool (@decide p i))) (hp:args.all (cU n)=true) (ht:p->K (.bool true) M) (hf:¬p->K (.bool false) M):aj P f args M K:=
 aj.of_pure (n:=n) h hp fun u hu=>by
  subst hu
  by_cases hh:p
  ·rw[decide_eq_true hh];exact ht hh
  ·rw[decide_eq_false hh];exact hf hh
theorem P4 {P:Program} {f:FuncId} {args:List AV} {p:Prop} {i:Decidable p} {K:AV->Prop} (n:Nat) (h:ab P f args (fun u=>u= .bool (@decide p i))) (hp:args.all (cU n)=true) (ht:p->K (.bool true)) (hf:¬p->K (.bool false)):sU P f args K:=
 F5 n h hp ⟨_,rfl⟩ fun u hu=>by
  subst hu
  by_cases hh:p
  ·rw[decide_eq_true hh];exact ht hh
  ·rw[decide_eq_false hh];exact hf hh
theorem bk {p:Prop} {i:Decidable p} (h:p):AV.bool true= .bool (@decide p i):=by rw[decide_eq_true h]
theorem aC {p:Prop} {i:Decidable p} (h:¬p):AV.bool false= .bool (@decide p i):=by rw[decide_eq_false h]
def wI (M:ac):AV->AV
 | .row ℓ n sz=>match M ℓ with
  |some (.row _ d enc l)=> .sl d enc l
  |some (.gone d enc l)=> .sl d enc l
  |_=> .row ℓ n sz
 | .ptr ℓ o=>match M ℓ with
  |some (.box _ cells)=>match cd cells with
   |true=> .pd (cells.drop o)
   |false=> .ptr ℓ o
  |_=> .ptr ℓ o
 |u=>u
def Kp (M:ac):AV->AV
 | .agg cs=> .agg (cs.map (wI M))
 | .fn f cs=> .fn f (cs.map (wI M))
 |u=>wI M u
def Ge:aU->Bool
 | .row _ _ _ _=>true
 | .box _ _=>true
 | .hdr _ _ _=>true
 |_=>false
def yP:AV->Bool
 | .int _ _| .bool _| .str _| .nilsl| .top=>true
 |_=>false
def Gf:AV->Bool
 | .tup cs=>cs.all yP
 | .agg cs=>cs.all yP
 |u=>yP u
section
variable {P:Program} {S F:ah} {ρ:aB} {M:ac} {w:World}
def mA (ρ:aB) (M:ac) (k:Nat):Prop:=∃ℓ B b,M ℓ=some B/\ρ ℓ=some b/\Ge B=true/\B.live b/\b.blk=k
noncomputable def ci (S:ah) (ρ:aB) (M:ac) (w:World):ah:=fun k=>open Classical in if mA ρ M k then w.heap[k]? else S k
theorem ni (hM:az S F ρ M w) {k:Nat} (h:mA ρ M k):S k=none/\F k=none/\k<w.heap.size:=by
 obtain⟨ℓ,B,b,h1,h2,_,h3,rfl⟩:=h
 obtain⟨b',hb',hr⟩:=hM.blk _ _ h1
 rw[h2] at hb';cases hb'
 exact⟨(hr.off h3).1,(hr.off h3).2,hr.lt h3⟩
theorem mB (hM:az S F ρ M w):S.le (ci S ρ M w):=by
 intro k o hk
 unfold ci
 split
 ·rename_i h
  rw[(ni hM h).1] at hk;cases hk
 ·exact hk
theorem yQ (hM:az S F ρ M w):(ci S ρ M w).inW w:=by
 intro k o hk
 unfold ci at hk
 split at hk
 ·exact hk
 ·exact hM.sw k o hk
theorem rQ (hM:az S F ρ M w) {v:Value} {u:AV} (h:RV S ρ v u):RV (ci S ρ M w) ρ v (wI M u):=by
 have hle:=mB (S:=S) (F:=F) hM
 unfold wI
 split
 ·rename_i ℓ n sz
  split
  ·rename_i t α d enc l hl
   obtain⟨b,hb,hn,hs,hz,rfl⟩:=h.row_inv
   obtain⟨b',hb',hlen,hszs,hcase⟩:=hM.blk _ _ hl
   rw[hb] at hb';cases hb'
   rcases hcase with ⟨hnil,rfl,hcap⟩|⟨hnil,hcap,vs,hheap,hsize,hcell,hS,hF⟩
   ·have e:b.hdr= .slice none 0 0:=by simp only[eT.hdr,hnil,if_true,hcap];simp at hlen;rw[hlen]
    rw[e]
    exact .p (.sl d enc [] none 0 1 (fun _ _=> .int .i64 0) (by simp) (by simp) (by simp) (fun i j hi=>by simp at hi) (by simp) (fun i a j u hi=>by simp at hi))
   ·have e:b.hdr= .slice (some ⟨b.blk,0,none⟩) l.length b.cap:=by simp only[eT.hdr,hnil,hlen];rfl
    rw[e]
    have hl1:ci S ρ M w b.blk=some (.cells vs t (0,0)):=by
     unfold ci
     rw[if_pos ⟨ℓ,_,b,hl,hb,rfl,hnil,rfl⟩]
     exact hheap
    refine .p (.sl d enc l (some ⟨b.blk,0,none⟩) b.cap b.sz (fun i j=>vs.getD (i*b.sz+j) undef) hcap (fun a ha=>(hszs a ha).2) (fun a ha=>(hszs a ha).1) (fun i j hi hj=>⟨_,rfl,?_⟩) (by simp) (fun i a j u hi hu=>?_))
    ·rw[Addr.add_mk]
     have:i*b.sz+j<vs.size:=by
      rw[hsize]
      have:(i+1)*b.sz<=b.cap*b.sz:=Nat.mul_le_mul_right _ (by omega)
      rw[Nat.add_mul] at this
      omega
     unfold ah.cell
     simp only[hl1]
     simp[this]
    ·obtain⟨v,hv,hvr⟩:=hcell i a j u hi hu
     have:vs.getD (i*b.sz+j) undef=v:=by simp[hv]
     rw[this]
     exact hvr.mono hle
  ·rename_i α d enc l hl
   obtain⟨b,hb,hn,hs,hz,rfl⟩:=h.row_inv
   obtain⟨b',hb',hlen,hr⟩:=hM.blk _ _ hl
   rw[hb] at hb';cases hb'
   exact .p (hr.mono hle)
  ·exact h.mono hle (aB.le_refl _)
 ·rename_i ℓ o
  split
  ·rename_i t cells hl
   split
   ·rename_i hp
    obtain⟨b,hb,rfl⟩:=h.ptr_inv
    obtain⟨b',hb',vs,hheap,hvs,hS,hF⟩:=hM.blk _ _ hl
    rw[hb] at hb';cases hb'
    have hps:=(fE hp hvs).1
    have hl1:ci S ρ M w b.blk=some (.cells vs t (0,0)):=by
     unfold ci
     rw[if_pos ⟨ℓ,_,b,hl,hb,rfl,trivial,rfl⟩]
     exact hheap
    refine .p (.pd _ _ (fun j=>vs.getD (o+j) undef) (fun j hj=>?_) (fun j u hu=>?_))
    ·rw[Addr.add_mk]
     have hl2:=hps.1
     have:o+j<vs.size:=by simp at hj hl2;omega
     unfold ah.cell
     simp only[hl1]
     simp[this]
    ·rw[List.getElem?_drop] at hu
     obtain⟨v,hv,hvr⟩:=hps.2 _ u hu
     have hv':vs[o+j]? =some v:=by simpa using hv
     have:vs.getD (o+j) undef=v:=by simp[hv']
     rw[this]
     exact hvr.mono hle
   ·exact h.mono hle (aB.le_refl _)
  ·exact h.mono hle (aB.le_refl _)
 ·exact h.mono hle (aB.le_refl _)
theorem Kq (hM:az S F ρ M w) {v:Value} {u:AV} (h:RV S ρ v u):RV (ci S ρ M w) ρ v (Kp M u):=by
 unfold Kp
 split
 ·rename_i cs
  obtain⟨vs,rfl,hr⟩:=h.agg_inv
  have:ba (ci S ρ M w) ρ vs.toList (cs.map (wI M)):=⟨by simpa using hr.1,fun i u hu=>by
   rw[List.getElem?_map] at hu
   obtain⟨u0,h0,rfl⟩:=Option.map_eq_some_iff.1 hu
   obtain⟨v,hv,hvr⟩:=hr.2 i u0 h0
   exact⟨v,hv,rQ hM hvr⟩⟩
  have:=RV.agg_mk this
  simpa using this
 ·rename_i f cs
  obtain⟨vs,rfl,hr⟩:=h.fn_inv
  have:ba (ci S ρ M w) ρ vs.toList (cs.map (wI M)):=⟨by simpa using hr.1,fun i u hu=>by
   rw[List.getElem?_map] at hu
   obtain⟨u0,h0,rfl⟩:=Option.map_eq_some_iff.1 hu
   obtain⟨v,hv,hvr⟩:=hr.2 i u0 h0
   exact⟨v,hv,rQ hM hvr⟩⟩
  have:=RV.fn_mk f this
  simpa using this
 ·exact rQ hM h
theorem tl {S S':ah} {v:Value} {u:AV} (hf:yP u=true) (h:RP S v u):RP S' v u:=by
 cases h<;>first|(simp[yP] at hf;done)|constructor
theorem Gg {S S':ah} {v:Value} {u:AV} (hf:Gf u=true) (h:RP S v u):RP S' v u:=by
 cases u with
 |tup cs=>
  cases h with
  |tup _ vs hs vals he hv=>exact .tup cs vs hs vals he fun j u hu=>tl (List.all_eq_true.1 hf u (List.mem_of_getElem? hu)) (hv j u hu)
 |agg cs=>
  cases h with
  |agg _ vs hs vals he hv=>exact .agg cs vs hs vals he fun j u hu=>tl (List.all_eq_true.1 hf u (List.mem_of_getElem? hu)) (hv j u hu)
 |_=>exact tl hf h
noncomputable def rj (S':ah) (ρ:aB) (M:ac):ah:=fun k=>open Classical in if mA ρ M k then none else S' k
theorem vt {S':ah} {k:Nat} (h:mA ρ M k):rj S' ρ M k=none:=by unfold rj;rw[if_pos h]
theorem tm {S':ah} {k:Nat} (h:¬mA ρ M k):rj S' ρ M k=S' k:=by unfold rj;rw[if_neg h]
theorem aj.borrowG {f:FuncId} {args args':List AV} {R:AV->Prop} {K:AV->ac->Prop} (h:ab P f args' R) (hconv:∀S F ρ w vs,az S F ρ M w->ba S ρ vs args->ib (ci S ρ M w) vs args') (hfl:∀u,R u->Gf u=true) (hk:∀u,R u->K u M):aj P f args M K:=by
 rw[bB]
 rw[cZ] at h
 refine⟨h.1,?_⟩
 intro S F ρ vs w hM hv
 have hle:=mB (S:=S) (F:=F) hM
 let own:Nat->Prop:=fun ℓ=>∃B,M ℓ=some B/\Ge B=true
 have hargs:=hconv S F ρ w vs hM hv
 have hsf:∀k,ci S ρ M w k=none\/d9 F ρ M w own k=none:=by
  intro k
  by_cases hr:mA ρ M k
  ·right
   obtain⟨ℓ,B,b,h1,h2,h3,h4,rfl⟩:=hr
   unfold d9
   rw[if_neg]
   ·exact(ni hM ⟨ℓ,B,b,h1,h2,h3,h4,rfl⟩).2.1
   ·rintro⟨y,C,c,g1,g2,g3,g4,g5⟩
    refine hM.inj y ℓ C _ c b g1 h1 g2 h2 g3 h4 (fun e=>?_) g4
    subst e
    exact g5 ⟨B,h1,h3⟩
  ·have e:ci S ρ M w k=S k:=by unfold ci;rw[if_neg hr]
   rw[e]
   exact oW hM k
 refine(h.2 (ci S ρ M w) (d9 F ρ M w own) vs w (hM.gl.mono hle) (yQ hM) (m7 hM) hsf hargs).mono ?_
 rintro e w' ⟨v,u,S',rfl,hR,hle',hs,hf,hd,hr,hw⟩
 have hS2:S.le (rj S' ρ M):=by
  intro k o hk
  by_cases h:mA ρ M k
  ·rw[(ni hM h).1] at hk;cases hk
  ·rw[tm h];exact hle' k o (hle k o hk)
 have hS2':∀k o,rj S' ρ M k=some o->S' k=some o:=by
  intro k o hk
  by_cases h:mA ρ M k
  ·rw[vt h] at hk;cases hk
  ·rw[tm h] at hk;exact hk
 refine⟨v,u,M,rj S' ρ M,ρ,rfl,hk u hR,hS2,aB.le_refl _,⟨fun k o hk=>hs k o (hS2' k o hk),fun k o hk=>hf k o (kg hM k o hk),fun k=>?_,hM.dom,fun ℓ B hB=>?_,hM.inj,hM.gl.mono hS2⟩, .p (Gg (hfl u hR) hr),hw⟩
 ·cases hk2:rj S' ρ M k with
  |none=>exact .inl rfl
  |some o=>
   right
   rcases hd k with h|h
   ·rw[hS2' k o hk2] at h;cases h
   ·cases hk:F k with
    |none=>rfl
    |some o'=>rw[kg hM k o' hk] at h;cases h
 ·obtain⟨b,hb,hrB⟩:=hM.blk _ _ hB
  refine⟨b,hb,hrB.keep hS2 (aB.le_refl _) fun hl=>?_⟩
  have hlt:=hrB.lt hl
  obtain⟨o,ho⟩:∃o,w.heap[b.blk]? =some o:=⟨_,Array.getElem?_eq_getElem hlt⟩
  have hSb:=(hrB.off hl).1
  by_cases hrow:mA ρ M b.blk
  ·have e1:ci S ρ M w b.blk=some o:=by unfold ci;rw[if_pos hrow];exact ho
   refine⟨by rw[hs _ o (hle' _ o e1),ho],?_⟩
   rw[hSb,vt hrow]
  ·have hno:¬own ℓ:=by
    rintro⟨B',h1,h2⟩
    rw[hB] at h1
    cases h1
    exact hrow ⟨ℓ,B,b,hB,hb,h2,hl,rfl⟩
   have hk:=kX (F:=F) (w:=w) (own:=own) hB hb hl hno
   refine⟨by rw[hf b.blk o (hk.trans ho),ho],?_⟩
   rw[hSb,tm hrow]
   rcases hd b.blk with h|h
   ·exact h
   ·rw[hk,ho] at h;cases h
theorem aj.borrow {f:FuncId} {args:List AV} {R:AV->Prop} {K:AV->ac->Prop} {n:Nat} (h:ab P f (args.map (Kp M)) R) (hp:(args.map (Kp M)).all (cU n)=true) (hfl:∀u,R u->Gf u=true) (hk:∀u,R u->K u M):aj P f args M K:=
 aj.borrowG h (fun S F ρ w vs hM hv=>u7 hp (S:=ci S ρ M w) (ρ:=ρ) ⟨by simpa using hv.1,fun i u hu=>by
  rw[List.getElem?_map] at hu
  obtain⟨u0,h0,rfl⟩:=Option.map_eq_some_iff.1 hu
  obtain⟨v,hv1,hvr⟩:=hv.2 i u0 h0
  exact⟨v,hv1,Kq hM hvr⟩⟩) hfl hk
theorem bd.leak {D:List Nat} {fr fr':List AV} {M':ac} (ℓ:Nat) {t:TypeId} {α:Type} {d:α} {enc:α->List AV} {l:List α} (hl:M ℓ=some (.row t d enc l))
  (h:bd D (fr.map (jG ℓ (.sl d enc l))) (M.set ℓ (.gone d enc l)) fr' M'):bd D fr M fr' M':=by
 rw[ng] at*
 intro S F ρ0 ρ a w h0 h1 hM hF
 obtain⟨S1,b,hle,hb,hM1,_⟩:=hM.leak hl
 obtain⟨S2,ρ2,k1,k2,k3,k4⟩:=h S1 F ρ0 ρ a w h0 h1 hM1 ⟨⟨by simpa using hF.1.1,fun i u hu=>by
  rw[List.getElem?_map] at hu
  obtain⟨u0,hu0,rfl⟩:=Option.map_eq_some_iff.1 hu
  obtain⟨v,e,hr⟩:=hF.1.2 i u0 hu0
  exact⟨v,e,jf hM1 (ac.set_eq _ _ _) (hr.mono hle (aB.le_refl _))⟩⟩,hF.2⟩
 exact⟨S2,ρ2,ah.le_trans hle k1,k2,k3,k4⟩
end
theorem lI {p:Prop} (h:p:=by simp only[List.length_cons,List.length_nil];omega):p:=h
theorem nI {c k:Prop} (h':k) (h:c:=by first|omega|(dsimp only;omega)):iE c k:=bp h h'
theorem aI {c:Prop} {n:Int} {K:Int->Prop} (h':K n) (hc:c:=by exact trivial) (h:-9223372036854775808<=n/\n<=9223372036854775807:=by omega):me c .i64 n K:=yj hc h h'
theorem uI {c:Prop} {n:Int} {K:Int->Prop} (h':K n) (hc:c:=by exact trivial) (h:0<=n/\n<=18446744073709551615:=by omega):me c .u64 n K:=PT hc h h'
theorem vI {c:Prop} {n:Int} {K:Int->Prop} (h':K n) (hc:c:=by exact trivial) (h:0<=n/\n<=255:=by omega):me c .u8 n K:=Rq hc h h'
theorem tI {p:Prop} {i:Decidable p} {k:Bool->Prop} (h':k true) (h:p:=by omega):yi p i k:=dQ h h'
theorem fI {p:Prop} {i:Decidable p} {k:Bool->Prop} (h':k false) (h:¬p:=by omega):yi p i k:=j9 h h'
theorem dI {P:Program} {tt:TT} {ops:List Oper} {fr:List AV} {M:ac} {K:List AV->ac->Prop} (h:cD P tt (some .any) ops ops fr M K) (hB:ig tt .any ops=true:=by decide+kernel):gx P tt ops fr M K:=Gd hB h
theorem dR {P:Program} {tt:TT} {ops:List Oper} {fr:List AV} {M:ac} {K:List AV->ac->Prop} (h:cD P tt (some .rows) ops ops fr M K) (hB:ig tt .rows ops=true:=by decide+kernel):gx P tt ops fr M K:=P0 hB h
theorem dP {P:Program} {tt:TT} {ops:List Oper} {fr:List AV} {M:ac} {K:List AV->ac->Prop} (h:cD P tt (some .pers) ops ops fr M K) (hB:ig tt .pers ops=true:=by decide+kernel):gx P tt ops fr M K:=P2 hB h
theorem pI {α β:Type} {enc:α->List AV} {l:List α} {enc':β->List AV} {l':List β} {bytes:Nat} {K:List α->Prop} (l'':List α) (h:l''.map enc=l'.map enc') (hk:K l'')
  (hb:(l.length+l'.length)*bytes<=140737488355328:=by first|omega|(dsimp only;omega)|(simp only[List.length_cons,List.length_nil,List.length_append];omega)):AE enc l enc' l' bytes K:=di l'' h hb hk
theorem dt {g k:Prop} (h':k) (h:k->g:=by first|exact fun h=>nI h|exact fun h=>aI h|exact fun h=>tI h|exact fun h=>fI h):g:=h h'
theorem at_ {g k:Prop} (h':k) (h:k->g:=by first|exact fun h=>nI h|exact fun h=>aI h|exact fun h=>PT trivial (by omega) h|exact fun h=>Rq trivial (by omega) h|exact fun h=>dI h|exact fun h=>dR h|exact fun h=>dP h|exact fun h=>ar rfl h|exact fun h=>pI _ rfl h|exact fun h=>an _ rfl h|exact fun h=>tI h|exact fun h=>fI h):g:=h h'
theorem oP {P:Program} {M:ac} {f:FuncId} {args:List AV} {v:AV} {K:AV->ac->Prop} (h:ab P f args (fun u=>u=v)) (hk:K v M) (hp:args.all (cU 5)=true:=by exact rfl):aj P f args M K:=
 aj.of_pure (n:=5) h hp fun u hu=>by subst hu;exact hk
theorem oC {P:Program} {f:FuncId} {args:List AV} {v:AV} {K:AV->Prop} (h:ab P f args (fun u=>u=v)) (hk:K v) (hp:args.all (cU 5)=true:=by exact rfl):sU P f args K:=
 F5 5 h hp ⟨_,rfl⟩ fun u hu=>by subst hu;exact hk
theorem dC {P:Program} {M:ac} {f:FuncId} {args:List AV} {p:Prop} {i:Decidable p} {K:AV->ac->Prop} (h:ab P f args (fun u=>u= .bool (@decide p i))) (ht:p->K (.bool true) M) (hf:¬p->K (.bool false) M) (hp:args.all (cU 5)=true:=by exact rfl):aj P f args M K:=
 aj.dcall (n:=5) h hp ht hf
theorem dD {P:Program} {f:FuncId} {args:List AV} {p:Prop} {i:Decidable p} {K:AV->Prop} (h:ab P f args (fun u=>u= .bool (@decide p i))) (ht:p->K (.bool true)) (hf:¬p->K (.bool false)) (hp:args.all (cU 5)=true:=by exact rfl):sU P f args K:=
 P4 5 h hp ht hf
end
end Go.Proofs.YtekmminpfhacpaaGreatDoor
