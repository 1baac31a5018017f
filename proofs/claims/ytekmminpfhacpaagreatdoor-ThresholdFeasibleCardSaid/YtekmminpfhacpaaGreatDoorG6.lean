import Derived.Test.YtekmminpfhacpaaGreatDoorG4
set_option linter.unusedVariables false
set_option linter.unusedSimpArgs false
namespace Go.Proofs.YtekmminpfhacpaaGreatDoor
section
def eH (f:Nat->Option LM) (ρ:aB):aB:=fun x=>match f x with
 |some (.old ℓ)=>ρ ℓ
 |some (.nil sz)=>some ⟨0,0,0,sz,true⟩
 |none=>none
def rk (f:Nat->Option LM) (M:ac) (x:Nat) (B':aU):Prop:=
 match f x with
 |some (.old ℓ)=>∃B,M ℓ=some B/\(B'= .dead\/((∀b,B'.live b->B.live b)/\∀S F ρ w b,dk S F ρ w b B->dk S F (eH f ρ) w b B'))
 |some (.nil _)=>(∃(t:TypeId) (α:Type) (d:α) (enc:α->List AV),B'= .row t d enc [])\/∃t g,B'= .hdr t g 0
 |none=>False
structure cp (f:Nat->Option LM) (M M':ac):Prop where
 tell:∀x B',M' x=some B'->rk f M x B'
 keys:∀x y,f x=some y->M' x≠none
 olds:∀a b ℓ,f a=some (.old ℓ)->f b=some (.old ℓ)->M' a≠some .dead->M' b≠some .dead->a=b
section
variable {S F:ah} {ρ:aB} {M M':ac} {w:World} {P:Program} {tt:TT} {f:Nat->Option LM}
theorem cp.live (h:cp f M M') {x:Nat} {B':aU} (hB:M' x=some B') {b:eT} (hb:eH f ρ x=some b) (hl:B'.live b):∃ℓ B,f x=some (.old ℓ)/\M ℓ=some B/\ρ ℓ=some b/\B.live b/\B'≠ .dead:=by
 have ht:=h.tell x B' hB
 unfold rk at ht
 unfold eH at hb
 cases hf:f x with
 |none=>rw[hf] at hb;cases hb
 |some y=>
  rw[hf] at hb ht
  cases y with
  |old ℓ=>
   obtain⟨B,h1,h2⟩:=ht
   rcases h2 with rfl|⟨h2,h3⟩
   ·exact hl.elim
   ·exact⟨ℓ,B,rfl,h1,hb,h2 b hl,fun e=>by subst e;exact hl⟩
  |nil sz=>
   simp only[Option.some.injEq] at hb
   subst hb
   rcases ht with ⟨t,α,d,enc,rfl⟩|⟨t,g,rfl⟩
   ·simp[aU.live] at hl
   ·simp[aU.live] at hl
theorem az.relabelG (hM:az S F ρ M w) (h:cp f M M'):az S F (eH f ρ) M' w:=by
 refine⟨hM.sw,hM.fw,hM.sf,fun x b hb=>?_,fun x B' hB'=>?_,fun x y B C b c h1 h2 h3 h4 h5 h6 hne=>?_,hM.gl⟩
 ·cases hf:f x with
  |none=>unfold eH at hb;rw[hf] at hb;cases hb
  |some y=>exact h.keys x y hf
 ·have ht:=h.tell x B' hB'
  unfold rk at ht
  cases hf:f x with
  |none=>rw[hf] at ht;exact ht.elim
  |some y=>
   rw[hf] at ht
   cases y with
   |old ℓ=>
    obtain⟨B,h1,h2⟩:=ht
    obtain⟨b,hb,hr⟩:=hM.blk _ _ h1
    refine⟨b,by unfold eH;rw[hf];exact hb,?_⟩
    rcases h2 with rfl|⟨_,h3⟩
    ·trivial
    ·exact h3 S F ρ w b hr
   |nil sz=>
    refine⟨⟨0,0,0,sz,true⟩,by unfold eH;rw[hf],?_⟩
    rcases ht with ⟨t,α,d,enc,rfl⟩|⟨t,g,rfl⟩
    ·exact⟨rfl,by simp, .inl ⟨rfl,rfl,rfl⟩⟩
    ·exact⟨[],rfl,fun i hi=>absurd hi (Nat.not_lt_zero _),rfl,by simp, .inl ⟨rfl,rfl,rfl⟩⟩
 ·obtain⟨ℓ1,B1,f1,m1,r1,l1,d1⟩:=h.live h1 h3 h5
  obtain⟨ℓ2,B2,f2,m2,r2,l2,d2⟩:=h.live h2 h4 h6
  refine hM.inj ℓ1 ℓ2 B1 B2 b c m1 m2 r1 r2 l1 l2 fun e=>?_
  subst e
  exact hne (h.olds x y ℓ1 f1 f2 (fun e=>d1 (by rw[h1] at e;exact Option.some.inj e)) (fun e=>d2 (by rw[h2] at e;exact Option.some.inj e)))
def eI (f:Nat->Option LM) (us us':List AV):Prop:=∀S ρ vs,ba S ρ vs us->ba S (eH f ρ) vs us'
def kj (f:Nat->Option LM) (u u':AV):Prop:=∀S ρ v,RV S ρ v u->RV S (eH f ρ) v u'
theorem iP {lm:aV} (h:∀k y,al lm k=some y->f k=some y):aB.le (bz lm ρ) (eH f ρ):=by
 intro x b hb
 unfold bz at hb
 unfold eH
 cases hf:al lm x with
 |none=>rw[hf] at hb;cases hb
 |some y=>
  rw[hf] at hb
  rw[h x y hf]
  cases y with
  |old ℓ=>exact hb
  |nil sz=>exact hb
theorem eI.by_ {lm:aV} (n:Nat) {us us':List AV} (h:∀k y,al lm k=some y->f k=some y) (ha:fV lm n us us'):eI f us us':=
 fun _ _ vs hv=>((eE n).2 us us' vs ha hv).mono (ah.le_refl _) (iP h)
theorem kj.by_ {lm:aV} (n:Nat) {u u':AV} (h:∀k y,al lm k=some y->f k=some y) (ha:lU lm n u u'):kj f u u':=
 fun _ _ v hv=>((eE n).1 u u' v ha hv).mono (ah.le_refl _) (iP h)
theorem kj.row {ℓ ℓ' n sz:Nat} (h:f ℓ'=some (.old ℓ)):kj f (.row ℓ n sz) (.row ℓ' n sz):=fun S ρ v hv=>by
 obtain⟨b,hb,h1,h2,h3,rfl⟩:=hv.row_inv
 exact .row ℓ' n sz b (by unfold eH;rw[h];exact hb) h1 h2 h3
theorem eI.one {u u':AV} (h:kj f u u'):eI f [u] [u']:=fun S ρ vs hv=>by
 obtain⟨v,vs',rfl,h1,h2⟩:=hv.cons_inv
 cases h2.nil_inv
 exact ba.cons (h S ρ v h1) (ba.nil _ _)
theorem bd.gen {D:List Nat} {fr fr':List AV} (f:Nat->Option LM) (h:cp f M M') (hD:∀d∈D,f d=some (.old d)) (hf:eI f fr fr'):bd D fr M fr' M':=by
 rw[ng]
 intro S F ρ0 ρ a w h0 h1 hM hF
 refine⟨S,eH f ρ,ah.le_refl _,fun ℓ b hb=>?_,hM.relabelG h,hf S ρ _ hF.1,hF.2⟩
 unfold eH
 rw[hD ℓ (h0 ℓ b hb)]
 exact h1 ℓ b hb
def bU (lm:aV) (ψ:Nat->Option Nat):Nat->Option LM:=fun x=>match al lm x with
 |some y=>some y
 |none=>(ψ x).map .old
theorem ce {lm:aV} {ψ:Nat->Option Nat}:∀k y,al lm k=some y->bU lm ψ k=some y:=fun k y h=>by unfold bU;rw[h]
theorem f9 {lm:aV} {ψ:Nat->Option Nat} {x o:Nat} (h:al lm x=none) (h2:ψ x=some o):bU lm ψ x=some (.old o):=by unfold bU;rw[h,h2];rfl
def qv (lm:aV) (n:Nat) (M:ac):List (Nat×aU)->Prop
 |[]=>True
 |(ℓ',B')::r=>(match B' with
  |.hdr _ _ _=>True
  |B'=>match al lm ℓ' with
   |some (.old ℓ)=>jx lm n (M ℓ) B'
   |some (.nil _)=>match B' with
    |.row _ _ _ l=>l=[]
    |_=>False
   |none=>False)/\qv lm n M r
theorem tn {lm:aV} {n:Nat}:∀{L:List (Nat×aU)},qv lm n M L->∀ℓ' B',(ℓ',B')∈L->(∃t g m,B'= .hdr t g m)\/(match al lm ℓ' with
   |some (.old ℓ)=>jx lm n (M ℓ) B'
   |some (.nil _)=>match B' with
    |.row _ _ _ l=>l=[]
    |_=>False
   |none=>False)
 |[],_,_,_,h=>by cases h
 |(k,C)::r,h,ℓ',B',hm=>by
  rcases List.mem_cons.1 hm with e|hm
  ·injection e with e1 e2
   subst e1;subst e2
   have h1:=h.1
   cases B' with
   |hdr t g m=>exact .inl ⟨t,g,m,rfl⟩
   |_=>exact .inr h1
  ·exact tn h.2 ℓ' B' hm
def Ep (lm:aV) (f:Nat->Option LM) (M:ac) (ℓ':Nat) (t:TypeId) (g':Nat->List AV) (m:Nat):Prop:=
 match al lm ℓ' with
 |some (.old ℓ)=>∃g,M ℓ=some (.hdr t g m)/\∀i,i<m->eI f (g i) (g' i)
 |some (.nil _)=>m=0
 |none=>False
theorem Er {lm:aV} {n ℓ:Nat} {B':aU} (h:∀k y,al lm k=some y->f k=some y) (hb:jx lm n (M ℓ) B'):∃B,M ℓ=some B/\(B'= .dead\/((∀b,B'.live b->B.live b)/\∀S F ρ w b,dk S F ρ w b B->dk S F (eH f ρ) w b B')):=by
 unfold jx at hb
 split at hb
 ·rename_i B hM;exact⟨B,hM, .inl rfl⟩
 ·exact hb.elim
 ·rename_i t cs t' cs' hM
  refine⟨_,hM, .inr ⟨fun _ _=>trivial,?_⟩⟩
  split at hb
  ·rename_i ht
   have:=Nat.eq_of_beq_eq_true ht
   subst this
   rintro S F ρ w b ⟨vs,h1,h2,h3⟩
   exact⟨vs,h1,((eE n).2 cs cs' _ hb h2).mono (ah.le_refl _) (iP h),h3⟩
  ·exact hb.elim
 ·rename_i t α d enc l t' α' d' enc' l' hM
  rw[hb] at hM
  exact⟨_,hM, .inr ⟨fun _ hl=>hl,fun S F ρ w b hr=>hr⟩⟩
 ·rename_i α d enc l α' d' enc' l' hM
  rw[hb] at hM
  exact⟨_,hM, .inr ⟨fun _ hl=>hl,fun S F ρ w b hr=>hr⟩⟩
 ·rename_i s p s' p' hM
  obtain⟨rfl,rfl⟩:=hb
  exact⟨_,hM, .inr ⟨fun _ hl=>hl,fun S F ρ w b hr=>hr⟩⟩
 ·rename_i hM
  rw[hb] at hM
  exact⟨_,hM, .inr ⟨fun _ hl=>hl,fun S F ρ w b hr=>hr⟩⟩
 ·rename_i hM
  rw[hb] at hM
  exact⟨_,hM, .inr ⟨fun _ hl=>hl,fun S F ρ w b hr=>hr⟩⟩
 ·exact hb.elim
def Rz:aU->Bool
 |.row _ _ _ _=>true
 |.dead=>true
 |_=>false
structure Mo (lm:aV) (L:List (Nat×aU)) (N:ac) (ψ:Nat->Option Nat) (M:ac):Prop where
 blk:∀x B',N x=some B'->al lm x=none/\ac.ofL L x=none/\∃o B,ψ x=some o/\M o=some B/\(B'= .dead\/(B'=B/\Rz B=true))
 key:∀x o,ψ x=some o->N x≠none
 inj:∀x y o,ψ x=some o->ψ y=some o->N x≠some .dead->N y≠some .dead->x=y
 far:∀x o k,ψ x=some o->N x≠some .dead->al lm k=some (.old o)->ac.ofL L k=some .dead
theorem Kr:∀{lm:aV} {L:List (Nat×aU)},ee L lm=true->∀{a b ℓ:Nat},al lm a=some (.old ℓ)->al lm b=some (.old ℓ)->ac.ofL L a≠some .dead->ac.ofL L b≠some .dead->a=b:=by
 intro lm L ho a b ℓ ha hb h1 h2
 unfold ee at ho
 have fd:∀(l:aV) {c:Nat},al l c=some (.old ℓ)->ac.ofL L c≠some .dead->al (l.filter fun p=>gV L p.1) c=some (.old ℓ):=by
  intro l
  induction l with
  |nil=>intro c h _;simp[al] at h
  |cons p r ih=>
   intro c h hd
   obtain⟨k,y⟩:=p
   simp only[al] at h
   by_cases e:Nat.beq k c=true
   ·rw[e] at h
    have e1:=Nat.eq_of_beq_eq_true e
    subst e1
    have hnd:gV L k=true:=by
     unfold gV
     split
     ·rename_i h0;exact absurd h0 hd
     ·rfl
    rw[List.filter_cons,if_pos hnd]
    simp only[al,e]
    exact h
   ·rw[Bool.not_eq_true] at e
    rw[e] at h
    rw[List.filter_cons]
    split
    ·simp only[al,e];exact ih h hd
    ·exact ih h hd
 exact sS ho (fd lm ha h1) (fd lm hb h2)
theorem gK (lm:aV) (L:List (Nat×aU)) (N:ac) (ψ:Nat->Option Nat) (n:Nat) (hs:(fe lm L&&ee L lm)=true) (hm:qv lm n M L)
  (hh:∀ℓ' t g' m,(ℓ',aU.hdr t g' m)∈L->Ep lm (bU lm ψ) M ℓ' t g' m) (hN:Mo lm L N ψ M):cp (bU lm ψ) M (aY L N):=by
 rw[Bool.and_eq_true] at hs
 have hfree:∀x,al lm x=none->∀B,ac.ofL L x=some B->False:=by
  intro x hx B hB
  have hmem:=fy hB
  rcases tn hm x B hmem with ⟨t,g,m,rfl⟩|h
  ·have:=hh x t g m hmem
   unfold Ep at this
   rw[hx] at this
   exact this
  ·rw[hx] at h;exact h
 refine⟨fun x B' hB'=>?_,fun x y hy=>?_,fun a b ℓ ha hb h1 h2=>?_⟩
 ·unfold aY at hB'
  cases hL:ac.ofL L x with
  |some B=>
   rw[hL] at hB'
   cases hB'
   have hmem:=fy hL
   rcases tn hm x B' hmem with ⟨t,g,m,rfl⟩|h
   ·have h2:=hh x t g m hmem
    unfold Ep at h2
    unfold rk
    cases hf:al lm x with
    |none=>rw[hf] at h2;exact h2.elim
    |some y=>
     rw[ce x y hf]
     rw[hf] at h2
     cases y with
     |old ℓ=>
      obtain⟨g0,h3,h4⟩:=h2
      refine⟨_,h3, .inr ⟨fun _ hl=>hl,?_⟩⟩
      rintro S F ρ w b ⟨l,hlm,hg,hr⟩
      exact⟨l,hlm,fun i hi=>h4 i hi S ρ _ (hg i hi),hr⟩
     |nil sz=>subst h2;exact .inr ⟨t,g,rfl⟩
   ·unfold rk
    cases hf:al lm x with
    |none=>rw[hf] at h;exact h.elim
    |some y=>
     rw[ce x y hf]
     rw[hf] at h
     cases y with
     |old ℓ=>exact Er ce h
     |nil sz=>
      simp only at h
      split at h
      ·rename_i t α d enc l
       subst h
       exact .inl ⟨_,_,_,_,rfl⟩
      ·exact h.elim
  |none=>
   rw[hL] at hB'
   obtain⟨h1,_,o,B,h3,h4,h5⟩:=hN.blk x B' hB'
   unfold rk
   rw[f9 h1 h3]
   refine⟨B,h4,?_⟩
   rcases h5 with rfl|⟨rfl,h6⟩
   ·exact .inl rfl
   ·refine .inr ⟨fun _ hl=>hl,fun S F ρ w b hr=>?_⟩
    cases B' with
    |row t d enc l=>exact hr
    |dead=>trivial
    |_=>cases h6
 ·unfold aY
  cases hL:ac.ofL L x with
  |some B=>simp
  |none=>
   cases hf:al lm x with
   |some z=>
    have:=List.all_eq_true.1 hs.1 _ (aQ hf)
    simp only at this
    rw[hL] at this;cases this
   |none=>
    unfold bU at hy
    rw[hf] at hy
    cases hψ:ψ x with
    |none=>rw[hψ] at hy;cases hy
    |some o=>exact hN.key x o hψ
 ·have src:∀c,bU lm ψ c=some (.old ℓ)->aY L N c≠some .dead->(al lm c=some (.old ℓ)/\ac.ofL L c≠some .dead)\/(al lm c=none/\ψ c=some ℓ/\N c≠some .dead):=by
   intro c hc hd
   unfold bU at hc
   cases hf:al lm c with
   |some z=>
    rw[hf] at hc
    cases hc
    refine .inl ⟨rfl,fun e=>hd ?_⟩
    unfold aY;rw[e]
   |none=>
    rw[hf] at hc
    cases hψ:ψ c with
    |none=>rw[hψ] at hc;cases hc
    |some o=>
     rw[hψ] at hc
     cases hc
     refine .inr ⟨rfl,rfl,fun e=>hd ?_⟩
     unfold aY
     cases hL:ac.ofL L c with
     |some B=>exact(hfree c hf B hL).elim
     |none=>exact e
  rcases src a ha h1 with ⟨a1,a2⟩|⟨a1,a2,a3⟩
  ·rcases src b hb h2 with ⟨b1,b2⟩|⟨b1,b2,b3⟩
   ·exact Kr hs.2 a1 b1 a2 b2
   ·exact absurd (hN.far b ℓ a b2 b3 a1) a2
  ·rcases src b hb h2 with ⟨b1,b2⟩|⟨b1,b2,b3⟩
   ·exact absurd (hN.far a ℓ b a2 a3 b1) b2
   ·exact hN.inj a b ℓ a2 b2 a3 b3
theorem bd.fam {D:List Nat} {fr fr':List AV} (lm:aV) (L:List (Nat×aU)) (N:ac) (ψ:Nat->Option Nat) (n:Nat) (hs:(fe lm L&&ee L lm)=true) (hm:qv lm n M L)
  (hh:∀ℓ' t g' m,(ℓ',aU.hdr t g' m)∈L->Ep lm (bU lm ψ) M ℓ' t g' m) (hN:Mo lm L N ψ M) (hD:∀d∈D,bU lm ψ d=some (.old d)) (hf:fV lm n fr fr'):bd D fr M fr' (aY L N):=
 bd.gen (bU lm ψ) (gK lm L N ψ n hs hm hh hN) hD (eI.by_ n ce hf)
def iH (N2 M:ac):ac:=fun x=>match N2 x with
 |some B=>some B
 |none=>M x
theorem aj.callG {g:FuncId} {args args':List AV} {K R:AV->ac->Prop} (f1:Nat->Option LM) (M0:ac) (hr1:cp f1 M M0) (ha:eI f1 args args') (h:aj P g args' M0 R)
  (hk:∀u M',R u M'->∃(f2:Nat->Option LM) (N2:ac) (u':AV),cp f2 M' N2/\(∀x ℓ,f1 x=some (.old ℓ)->f2 ℓ=some (.old x))/\(∀ℓ y,f2 ℓ=some y->(∃x,f1 x=some (.old ℓ))\/M ℓ=none)/\kj f2 u u'/\K u' (iH N2 M)):aj P g args M K:=by
 rw[bB] at h⊢
 refine⟨h.1,fun S F ρ vs w hM hv=>?_⟩
 let own:Nat->Prop:=fun ℓ=>∃x,f1 x=some (.old ℓ)
 have hMr:=hM.relabelG hr1
 have hlive:∀x B' b,M0 x=some B'->eH f1 ρ x=some b->B'.live b->d9 F ρ M w own b.blk=none:=by
  intro x B' b hB' hb hl
  obtain⟨b',hb',hr'⟩:=hMr.blk _ _ hB'
  rw[hb] at hb';cases hb'
  have hFb:=(hr'.off hl).2
  obtain⟨ℓ,B,hf,hML,hρ,hBl,_⟩:=hr1.live hB' hb hl
  unfold d9
  rw[if_neg]
  ·exact hFb
  ·rintro⟨y,C,c,g1,g2,g3,g4,g5⟩
   refine hM.inj y ℓ C B c b g1 hML g2 hρ g3 hBl (fun e=>?_) g4
   subst e
   exact g5 ⟨x,hf⟩
 have hMc:=hMr.reF (m7 (own:=own) hM) (oW hM) hlive
 refine(h.2 S (d9 F ρ M w own) (eH f1 ρ) vs w hMc (ha S ρ vs hv)).mono ?_
 rintro e w' ⟨v,u,M',S',ρ',rfl,hR,hle,hρ,hM',hr,hw⟩
 obtain⟨f2,N2,u',hr2,hb3,hb4,hau,hK⟩:=hk u M' hR
 have hM2:=hM'.relabelG hr2
 let ρ2:aB:=fun ℓ=>match eH f2 ρ' ℓ with
  |some b=>some b
  |none=>ρ ℓ
 have hle1:aB.le (eH f2 ρ') ρ2:=fun ℓ b hb=>by show(match eH f2 ρ' ℓ with|some b=>some b|none=>ρ ℓ)=_;rw[hb]
 have hle2:aB.le ρ ρ2:=by
  intro ℓ b hb
  show(match eH f2 ρ' ℓ with|some b=>some b|none=>ρ ℓ)=_
  cases hf:f2 ℓ with
  |none=>
   have:eH f2 ρ' ℓ=none:=by unfold eH;rw[hf]
   rw[this];exact hb
  |some y=>
   rcases hb4 ℓ y hf with ⟨x,hx⟩|hn
   ·have he:eH f1 ρ x=some b:=by unfold eH;rw[hx];exact hb
    have h2:eH f2 ρ' ℓ=some b:=by unfold eH;rw[hb3 x ℓ hx];exact hρ _ _ he
    rw[h2]
   ·exact absurd hn (hM.dom ℓ b hb)
 have hF:∀k o,F k=some o->d9 F ρ M w own k=some o:=kg hM
 have framed:∀ℓ B b,N2 ℓ=none->M ℓ=some B->ρ ℓ=some b->B.live b->d9 F ρ M w own b.blk=w.heap[b.blk]?:=by
  intro ℓ B b h0 h1 h2 h3
  exact kX h1 h2 h3 fun⟨x,hf⟩=>hr2.keys ℓ _ (hb3 x ℓ hf) h0
 refine⟨v,u',iH N2 M,S',ρ2,rfl,hK,hle,hle2,⟨hM'.sw,fun k o hk=>hM'.fw k o (hF k o hk),fun k=>?_,fun ℓ b hb=>?_,fun ℓ B hB=>?_,fun x y B C b c h1 h2 h3 h4 h5 h6 hne=>?_,hM'.gl⟩,(hau S' ρ' v hr).mono (ah.le_refl _) hle1,hw⟩
 ·rcases hM'.sf k with h1|h1
  ·exact .inl h1
  ·right
   cases hk:F k with
   |none=>rfl
   |some o=>rw[hF k o hk] at h1;cases h1
 ·unfold iH
  cases h2:N2 ℓ with
  |some B=>simp
  |none=>
   have hb:(match eH f2 ρ' ℓ with|some b=>some b|none=>ρ ℓ)=some b:=hb
   cases h3:eH f2 ρ' ℓ with
   |some b'=>exact absurd h2 (hM2.dom _ _ h3)
   |none=>rw[h3] at hb;exact hM.dom _ _ hb
 ·unfold iH at hB
  cases h2:N2 ℓ with
  |some B'=>
   rw[h2] at hB
   cases hB
   obtain⟨b,hb,hr3⟩:=hM2.blk _ _ h2
   refine⟨b,hle1 _ _ hb,(hr3.keep (ah.le_refl _) hle1 fun _=>⟨rfl,rfl⟩).reF fun hl=>?_⟩
   have:=(hr3.off hl).2
   cases hk:F b.blk with
   |none=>rfl
   |some o=>rw[hF _ o hk] at this;cases this
  |none=>
   rw[h2] at hB
   obtain⟨b,hb,hr3⟩:=hM.blk _ _ hB
   refine⟨b,hle2 _ _ hb,hr3.keep hle hle2 fun hl=>?_⟩
   have hk:=framed ℓ B b h2 hB hb hl
   obtain⟨o,ho⟩:∃o,w.heap[b.blk]? =some o:=⟨_,Array.getElem?_eq_getElem (hr3.lt hl)⟩
   refine⟨by rw[hM'.fw _ o (hk.trans ho),ho],?_⟩
   rw[(hr3.off hl).1]
   rcases hM'.sf b.blk with h1|h1
   ·exact h1
   ·rw[hk,ho] at h1;cases h1
 ·have back:∀z D d,iH N2 M z=some D->ρ2 z=some d->D.live d->(N2 z=some D/\eH f2 ρ' z=some d)\/(N2 z=none/\M z=some D/\ρ z=some d):=by
   intro z D d hD hd hl
   unfold iH at hD
   cases hz:N2 z with
   |some D'=>
    rw[hz] at hD;cases hD
    obtain⟨b',hb',_⟩:=hM2.blk _ _ hz
    have:=hle1 _ _ hb'
    rw[hd] at this;cases this
    exact .inl ⟨rfl,hb'⟩
   |none=>
    rw[hz] at hD
    obtain⟨b',hb',_⟩:=hM.blk _ _ hD
    have:=hle2 _ _ hb'
    rw[hd] at this;cases this
    exact .inr ⟨rfl,hD,hb'⟩
  have mixed:∀z D d z' D' d',N2 z=some D->eH f2 ρ' z=some d->D.live d->N2 z'=none->M z'=some D'->ρ z'=some d'->D'.live d'->d.blk≠d'.blk:=by
   intro z D d z' D' d' a1 a2 a3 a4 a5 a6 a7 e
   obtain⟨b',hb',hr3⟩:=hM2.blk _ _ a1
   rw[a2] at hb';cases hb'
   have h1:=(hr3.off a3).2
   have h2:=framed z' D' d' a4 a5 a6 a7
   obtain⟨c',hc',hr4⟩:=hM.blk _ _ a5
   rw[a6] at hc';cases hc'
   rw[e,h2,Array.getElem?_eq_getElem (hr4.lt a7)] at h1
   cases h1
  rcases back x B b h1 h3 h5 with ⟨p1,p2⟩|⟨p0,p1,p2⟩<;>rcases back y C c h2 h4 h6 with ⟨q1,q2⟩|⟨q0,q1,q2⟩
  ·exact hM2.inj x y B C b c p1 q1 p2 q2 h5 h6 hne
  ·exact mixed x B b y C c p1 p2 h5 q0 q1 q2 h6
  ·exact fun e=>mixed y C c x B b q1 q2 h6 p0 p1 p2 h5 e.symm
  ·exact hM.inj x y B C b c p1 q1 p2 q2 h5 h6 hne
open Classical in
noncomputable def dz (M0:ac) (D:List Nat) (M:ac):ac:=fun x=>if M0 x≠none/\x∉D then some .dead else M x
theorem tp {M0:ac} {D:List Nat} {M:ac} {x:Nat} (h:x∈D):dz M0 D M x=M x:=by
 unfold dz;rw[if_neg (fun hh=>hh.2 h)]
theorem vu {M0:ac} {D:List Nat} {M:ac} {x:Nat} (h:M0 x=none):dz M0 D M x=M x:=by
 unfold dz;rw[if_neg (fun hh=>hh.1 h)]
theorem nj {M0:ac} {D:List Nat} {M:ac} {x:Nat} (h:M0 x≠none) (h2:x∉D):dz M0 D M x=some .dead:=by
 unfold dz;rw[if_pos ⟨h,h2⟩]
theorem aj.introG (hT:bc P tt=true) (hm:P.follows .mixedOrders=true) {g:FuncId} {fn:Func} {c:Code} {args args':List AV} {M0 M1:ac} (f0:Nat->Option LM) (D:List Nat) {R:AV->ac->Prop} (hr:cp f0 M0 M1) (hD:∀d∈D,f0 d=some (.old d)) (ha:eI f0 args args')
  (hf:P.funcs[g]? =some fn) (hb:fn.body=some c) (hn:(fn.name== "runtime.NumGoroutine")=false)
  (h:uA args' (fn.ntmps-args'.length) fun fr=>bO P tt D c fr M1 (Kn tt fn.results.toList fun u M=>(∀x,M0 x≠none->x∉D->M x=none)/\R u (dz M0 D M))):aj P g args M0 R:=by
 rw[bB]
 refine⟨mw hf hb hn,fun S F ρ vs w hM hv=>?_⟩
 have hM1:=hM.relabelG hr
 have hlen:=(ha S ρ vs hv).1
 let ρ0:aB:=fun x=>open Classical in if x∈D then ρ x else none
 have hρ0:∀x b,ρ0 x=some b->x∈D/\ρ x=some b:=by
  intro x b hx
  have hx:(open Classical in if x∈D then ρ x else none)=some b:=hx
  split at hx
  ·rename_i h1;exact⟨h1,hx⟩
  ·cases hx
 have hw:a8 P D c (args'++List.replicate (fn.ntmps-args'.length) (.tup [])) M1 (Kn tt fn.results.toList fun u M=>(∀x,M0 x≠none->x∉D->M x=none)/\R u (dz M0 D M)):=by
  rw[gX] at h;exact fY hT hm c _ _ _ h
 rw[c8] at hw
 refine calls_of_wp hf hb ?_
 have hvs:=ha S ρ vs hv
 have hF:fk S (eH f0 ρ) {tmps:=vs.toArray++Array.replicate (fn.ntmps-vs.toArray.size) undef,defers:=[]} (args'++List.replicate (fn.ntmps-args'.length) (.tup [])):=by
  refine⟨?_,rfl⟩
  have e:(vs.toArray++Array.replicate (fn.ntmps-vs.toArray.size) undef).toList=vs++List.replicate (fn.ntmps-args'.length) undef:=by simp[hlen]
  rw[e]
  refine hvs.append ⟨by simp,fun i u hu=>?_⟩
  have hi:=(List.getElem?_eq_some_iff.1 hu).1
  simp only[List.length_replicate] at hi
  have hu':u= .tup []:=by
   rw[List.getElem?_replicate] at hu
   simp[hi] at hu
   exact hu.symm
  subst hu'
  exact⟨undef,by simp[hi],RV.tup_mk (ba.nil _ _)⟩
 refine wp_mono (hw S F ρ0 (eH f0 ρ) _ w (fun ℓ b hb=>(hρ0 ℓ b hb).1) (fun ℓ b hb=>?_) hM1 hF) ?_
 ·obtain⟨h1,h2⟩:=hρ0 ℓ b hb
  unfold eH
  rw[hD ℓ h1]
  exact h2
 rintro e a' w' ⟨x,hx,ha'⟩
 have hd:a'.defers=[]:=by obtain⟨_,_,_,_,_,_,_,_,hF',_⟩:=ha';exact hF'.2
 obtain⟨fr,M',S',ρ',hk,h1,h2,h3,h4,h5⟩:=ha'
 have fin:(nK tt fr M' fn.results.toList fun us=>ji us M' fun us' M''=>(∀x,M0 x≠none->x∉D->M'' x=none)/\R (fZ us') (dz M0 D M''))->∃v,(results fn a'.tmps).run P w'= .ok v w'/\ml S F ρ w R (.returned v) w':=by
  intro hk
  obtain⟨vs',us,hK,hvs',hl,hrr⟩:=lh hT h3 h4 _ _ hk
  obtain⟨us',M2,S2,⟨hq,hR⟩,hle,hvs2,hM2⟩:=f8 _ _ _ _ _ hK hvs' h3
  let ρ2:aB:=fun x=>open Classical in if M0 x≠none/\x∉D then ρ x else ρ' x
  have hin:∀{x},¬(M0 x≠none/\x∉D)->ρ2 x=ρ' x:=fun{x} hh=>by show(open Classical in if M0 x≠none/\x∉D then ρ x else ρ' x)=_;rw[if_neg hh]
  have hout:∀{x},(M0 x≠none/\x∉D)->ρ2 x=ρ x:=fun{x} hh=>by show(open Classical in if M0 x≠none/\x∉D then ρ x else ρ' x)=_;rw[if_pos hh]
  have hle2:aB.le ρ' ρ2:=by
   intro x b hb
   rw[hin,hb]
   rintro⟨h6,h7⟩
   exact hM2.dom x b hb (hq x h6 h7)
  have hle3:aB.le ρ ρ2:=by
   intro x b hb
   by_cases hh:M0 x≠none/\x∉D
   ·rw[hout hh,hb]
   ·rw[hin hh]
    have hx0:=hM.dom x b hb
    have hxD:x∈D:=Classical.not_not.1 fun h8=>hh ⟨hx0,h8⟩
    refine h2 x b ?_
    show(open Classical in if x∈D then ρ x else none)=some b
    rw[if_pos hxD,hb]
  have get:∀x B,dz M0 D M2 x=some B->(∃b,ρ2 x=some b/\B.live b)->M2 x=some B/\ρ2 x=ρ' x:=by
   rintro x B hB ⟨b,_,hl⟩
   by_cases hh:M0 x≠none/\x∉D
   ·rw[nj hh.1 hh.2] at hB;cases hB;exact hl.elim
   ·unfold dz at hB
    rw[if_neg hh] at hB
    exact⟨hB,hin hh⟩
  refine⟨_,ii hrr,_,_,dz M0 D M2,S2,ρ2,rfl,hR,ah.le_trans h1 hle,hle3,⟨hM2.sw,hM2.fw,hM2.sf,fun x b hb=>?_,fun x B hB=>?_,fun x y B C b c g1 g2 g3 g4 g5 g6 hne=>?_,hM2.gl⟩,(mv hvs2).mono (ah.le_refl _) hle2,h5⟩
  ·by_cases hh:M0 x≠none/\x∉D
   ·rw[nj hh.1 hh.2];simp
   ·rw[hin hh] at hb
    unfold dz
    rw[if_neg hh]
    exact hM2.dom x b hb
  ·by_cases hh:M0 x≠none/\x∉D
   ·rw[nj hh.1 hh.2] at hB
    cases hB
    cases hM0:M0 x with
    |none=>exact absurd hM0 hh.1
    |some B0=>
     obtain⟨b,hb,_⟩:=hM.blk x B0 hM0
     exact⟨b,by rw[hout hh,hb],trivial⟩
   ·unfold dz at hB
    rw[if_neg hh] at hB
    obtain⟨b,hb,hrb⟩:=hM2.blk x B hB
    exact⟨b,by rw[hin hh,hb],hrb.keep (ah.le_refl _) hle2 fun _=>⟨rfl,rfl⟩⟩
  ·obtain⟨k1,k2⟩:=get x B g1 ⟨b,g3,g5⟩
   obtain⟨k3,k4⟩:=get y C g2 ⟨c,g4,g6⟩
   rw[k2] at g3
   rw[k4] at g4
   exact hM2.inj x y B C b c k1 k3 g3 g4 g5 g6 hne
 cases x with
 |normal=>
  obtain⟨v,hv1,hv2⟩:=fin hk
  cases e<;>first|exact⟨hd,v,hv1,hv2⟩|(cases hx;done)
 |ret=>
  obtain⟨v,hv1,hv2⟩:=fin hk
  cases e<;>first|exact⟨hd,v,hv1,hv2⟩|(cases hx;done)
 |exit i=>exact hk.elim
end
end
section
def Es:List (Nat×Nat)->Nat->Option Nat
 |[],_=>none
 |(y,k)::r,x=>match Nat.beq y x with
  |true=>some k
  |false=>Es r x
def Fr:List (Nat×Nat)->Nat->Bool
 |[],_=>false
 |(_,k')::r,k=>match Nat.beq k' k with
  |true=>true
  |false=>Fr r k
def i4 (p m:Nat) (a:List (Nat×Nat)) (x:Nat):Option Nat:=match Es a x with
 |some k=>some k
 |none=>match Nat.ble p x&&Nat.blt (x-p) m with
  |true=>(match Fr a (x-p) with
   |true=>none
   |false=>some (x-p))
  |false=>none
def eW (p:Nat):List (Nat×Nat)->Nat->Nat
 |[],k=>p+k
 |(y,k')::r,k=>match Nat.beq k' k with
  |true=>y
  |false=>eW p r k
def Ny (p m:Nat):List (Nat×Nat)->Prop
 |[]=>True
 |(y,k)::r=>y<p/\k<m/\(∀q∈r,q.1≠y/\q.2≠k)/\Ny p m r
theorem pb {a b:Nat} (h:a≠b):Nat.beq a b=false:=by rw[Bool.eq_false_iff];exact fun e=>h (Nat.eq_of_beq_eq_true e)
theorem pe:∀{a:List (Nat×Nat)} {x k:Nat},Es a x=some k->(x,k)∈a
 |(y,k')::r,x,k,h=>by
  rw[Es] at h
  split at h
  ·rename_i hb
   have:=Nat.eq_of_beq_eq_true hb
   subst this
   cases h
   exact List.mem_cons_self
  ·exact List.mem_cons_of_mem _ (pe h)
theorem pf {p m:Nat}:∀{a:List (Nat×Nat)} {x k:Nat},Ny p m a->(x,k)∈a->x<p/\k<m/\Es a x=some k/\eW p a k=x/\Fr a k=true
 |(y,k')::r,x,k,hw,h=>by
  rcases List.mem_cons.1 h with e|h
  ·injection e with e1 e2
   subst e1;subst e2
   exact⟨hw.1,hw.2.1,by rw[Es,Nat.beq_refl],by rw[eW,Nat.beq_refl],by rw[Fr,Nat.beq_refl]⟩
  ·obtain⟨h1,h2,h3,h4,h5⟩:=pf hw.2.2.2 h
   have hne:=hw.2.2.1 _ h
   refine⟨h1,h2,?_,?_,?_⟩
   ·rw[Es,pb (fun e=>hne.1 e.symm)];exact h3
   ·rw[eW,pb (fun e=>hne.2 e.symm)];exact h4
   ·rw[Fr,pb (fun e=>hne.2 e.symm)];exact h5
theorem pg {p:Nat}:∀{a:List (Nat×Nat)} {k:Nat},Fr a k=false->eW p a k=p+k
 |[],k,_=>rfl
 |(y,k')::r,k,h=>by
  rw[Fr] at h
  split at h
  ·cases h
  ·rename_i hb
   rw[eW,hb]
   exact pg h
theorem wJ:∀{a:List (Nat×Nat)} {k:Nat},Fr a k=true->∃x,(x,k)∈a
 |(y,k')::r,k,h=>by
  rw[Fr] at h
  split at h
  ·rename_i hb
   have:=Nat.eq_of_beq_eq_true hb
   subst this
   exact⟨y,List.mem_cons_self⟩
  ·obtain⟨x,hx⟩:=wJ h
   exact⟨x,List.mem_cons_of_mem _ hx⟩
theorem Nz {p m:Nat} {a:List (Nat×Nat)} {k:Nat} (h:Ny p m a):eW p a k=p+k\/∃q∈a,q.1=eW p a k/\q.2=k:=by
 cases hi:Fr a k with
 |false=>exact .inl (pg hi)
 |true=>
  obtain⟨x,hx⟩:=wJ hi
  exact .inr ⟨_,hx,(pf h hx).2.2.2.1.symm,rfl⟩
theorem bV {p m:Nat} {a:List (Nat×Nat)} {x k:Nat} (hw:Ny p m a) (h:i4 p m a x=some k):k<m/\eW p a k=x:=by
 unfold i4 at h
 split at h
 ·rename_i k' hk
  cases h
  have:=pf hw (pe hk)
  exact⟨this.2.1,this.2.2.2.1⟩
 ·split at h
  ·rename_i hb
   rw[Bool.and_eq_true] at hb
   have h1:=Nat.le_of_ble_eq_true hb.1
   have h2:x-p<m:=by have:=hb.2;simp[Nat.blt] at this;omega
   split at h
   ·cases h
   ·rename_i hi
    cases h
    exact⟨h2,by rw[pg hi];omega⟩
  ·cases h
theorem lj {p m:Nat} {a:List (Nat×Nat)} {k:Nat} (hw:Ny p m a) (h:k<m):i4 p m a (eW p a k)=some k:=by
 cases hi:Fr a k with
 |true=>
  obtain⟨x,hx⟩:=wJ hi
  have:=pf hw hx
  rw[this.2.2.2.1]
  unfold i4
  rw[this.2.2.1]
 |false=>
  rw[pg hi]
  have hn:Es a (p+k)=none:=by
   cases hf:Es a (p+k) with
   |none=>rfl
   |some k'=>
    have:=(pf hw (pe hf)).1
    omega
  unfold i4
  rw[hn]
  have h1:Nat.ble p (p+k)=true:=Nat.ble_eq_true_of_le (by omega)
  have h2:Nat.blt (p+k-p) m=true:=by simp[Nat.blt];omega
  rw[h1,h2,Nat.add_sub_cancel_left,hi]
  rfl
theorem ph {p m:Nat} {a:List (Nat×Nat)} (hw:Ny p m a) {k k':Nat} (h:k<m) (h':k'<m) (e:eW p a k=eW p a k'):k=k':=by
 have h1:=lj hw h
 rw[e,lj hw h'] at h1
 exact(Option.some.inj h1).symm
theorem Ks {p m:Nat} {a:List (Nat×Nat)} {x k:Nat} (h:i4 p m a x=some k):p<=x\/∃q∈a,q.1=x:=by
 unfold i4 at h
 split at h
 ·rename_i k' hk
  exact .inr ⟨_,pe hk,rfl⟩
 ·split at h
  ·rename_i hb
   rw[Bool.and_eq_true] at hb
   exact .inl (Nat.le_of_ble_eq_true hb.1)
  ·cases h
theorem tq {lm lmX:aV} {f:Nat->Option LM} (h1:∀k y,al lm k=some y->f k=some y) (h2:∀q∈lmX,f q.1=some q.2):∀k y,al (lm++lmX) k=some y->f k=some y:=by
 induction lm with
 |nil=>exact fun k y h=>h2 _ (aQ h)
 |cons p r ih=>
  obtain⟨k0,y0⟩:=p
  intro k y h
  rw[List.cons_append,al] at h
  by_cases e:Nat.beq k0 k=true
  ·rw[e] at h
   cases h
   have:=Nat.eq_of_beq_eq_true e
   subst this
   exact h1 k0 y0 (by rw[al,Nat.beq_refl])
  ·rw[Bool.not_eq_true] at e
   rw[e] at h
   have hr:=aQ h
   rcases List.mem_append.1 hr with h3|h3
   ·by_cases hk:∃y',al r k=some y'
    ·obtain⟨y',hy'⟩:=hk
     have h4:=h1 k y' (by rw[al,e];exact hy')
     have app:∀(a b:aV) {z:LM},al a k=some z->al (a++b) k=some z:=by
      intro a b z hz
      induction a with
      |nil=>cases hz
      |cons q a iha=>
       obtain⟨k1,z1⟩:=q
       rw[List.cons_append,al]
       rw[al] at hz
       split
       ·rename_i hb;rw[hb] at hz;exact hz
       ·rename_i hb;rw[hb] at hz;exact iha hz
     rw[app r lmX hy'] at h
     cases h
     exact h4
    ·exfalso
     have:∀(a:aV) {z:LM},(k,z)∈a->∃y',al a k=some y':=by
      intro a z hz
      induction a with
      |nil=>cases hz
      |cons q a iha=>
       obtain⟨k1,z1⟩:=q
       rw[al]
       by_cases hb:Nat.beq k1 k=true
       ·rw[hb];exact⟨_,rfl⟩
       ·rw[Bool.not_eq_true] at hb
        rw[hb]
        rcases List.mem_cons.1 hz with h5|h5
        ·injection h5 with h6 _
         subst h6
         rw[Nat.beq_refl] at hb;cases hb
        ·exact iha h5
     exact hk (this r h3)
   ·by_cases hk:∃y',al r k=some y'
    ·obtain⟨y',hy'⟩:=hk
     have h4:=h1 k y' (by rw[al,e];exact hy')
     have app:∀(a b:aV) {z:LM},al a k=some z->al (a++b) k=some z:=by
      intro a b z hz
      induction a with
      |nil=>cases hz
      |cons q a iha=>
       obtain⟨k1,z1⟩:=q
       rw[List.cons_append,al]
       rw[al] at hz
       split
       ·rename_i hb;rw[hb] at hz;exact hz
       ·rename_i hb;rw[hb] at hz;exact iha hz
     rw[app r lmX hy'] at h
     cases h
     exact h4
    ·exact h2 _ h3
def ij (ti:TypeId) (σ:Nat->Option Nat) (c:Nat->List Int):ac:=fun x=>match σ x with
 |some k=>some (.row ti 0 ak (c k))
 |none=>none
theorem NA {lm:aV} {p:Nat} (h:lm.all (fun q=>Nat.blt q.1 p)=true) {x:Nat} (hx:p<=x):al lm x=none:=by
 cases hf:al lm x with
 |none=>rfl
 |some y=>
  have:=List.all_eq_true.1 h _ (aQ hf)
  simp[Nat.blt] at this
  omega
theorem Kt {L:List (Nat×aU)} {p:Nat} (h:L.all (fun q=>Nat.blt q.1 p)=true) {x:Nat} (hx:p<=x):ac.ofL L x=none:=by
 cases hf:ac.ofL L x with
 |none=>rfl
 |some y=>
  have:=List.all_eq_true.1 h _ (fy hf)
  simp[Nat.blt] at this
  omega
section
variable {M:ac} {P:Program} {tt:TT}
theorem tu (lm:aV) (L:List (Nat×aU)) (n:Nat) (hd:Nat) (t0 ti:TypeId) (w m:Nat) (c:Nat->List Int) (σ:Nat->Option Nat) (lab lab':Nat->Nat)
  (hs:(fe lm L&&ee L lm)=true) (hm:qv lm n M L) (hL:∀ℓ t g m',(ℓ,aU.hdr t g m')∈L->ℓ=hd/\t=t0/\m'=m/\∀k,k<m->g k=[.row (lab' k) w 1])
  (h4:al lm hd=some (.old hd)) (hg:∃g,M hd=some (.hdr t0 g m)/\∀k,k<m->g k=[.row (lab k) w 1]) (hrow:∀k,k<m->M (lab k)=some (.row ti 0 ak (c k)))
  (hσ1:∀x k,σ x=some k->k<m/\al lm x=none/\ac.ofL L x=none) (hσ2:∀x y k,σ x=some k->σ y=some k->x=y) (hσ3:∀k,k<m->σ (lab' k)=some k)
  (hlab:∀k k',k<m->k'<m->lab k=lab k'->k=k') (hfar:∀k,k<m->∀y,al lm y=some (.old (lab k))->ac.ofL L y=some .dead):
  cp (bU lm fun x=>(σ x).map lab) M (aY L (ij ti σ c)):=by
 refine gK lm L _ _ n hs hm (fun ℓ t g m' hmem=>?_) ⟨fun x B' hB=>?_,fun x o hx=>?_,fun x y o hx hy _ _=>?_,fun x o k hx _ hk=>?_⟩
 ·obtain⟨rfl,rfl,rfl,hgg⟩:=hL ℓ t g m' hmem
  unfold Ep
  rw[h4]
  obtain⟨g0,h1,h2⟩:=hg
  refine⟨g0,h1,fun i hi=>?_⟩
  rw[h2 i hi,hgg i hi]
  refine eI.one (kj.row (f9 (hσ1 _ _ (hσ3 i hi)).2.1 ?_))
  rw[hσ3 i hi];rfl
 ·unfold ij at hB
  split at hB
  ·rename_i k hk
   cases hB
   obtain⟨h1,h2,h3⟩:=hσ1 x k hk
   refine⟨h2,h3,lab k,_,by rw[hk];rfl,hrow k h1, .inr ⟨rfl,rfl⟩⟩
  ·cases hB
 ·unfold ij
  cases hσx:σ x with
  |none=>rw[hσx] at hx;cases hx
  |some k=>simp
 ·cases h1:σ x with
  |none=>rw[h1] at hx;cases hx
  |some k=>
   cases h2:σ y with
   |none=>rw[h2] at hy;cases hy
   |some k'=>
    rw[h1] at hx
    rw[h2] at hy
    simp only[Option.map_some,Option.some.injEq] at hx hy
    have:=hlab k k' (hσ1 x k h1).1 (hσ1 y k' h2).1 (hx.trans hy.symm)
    subst this
    exact hσ2 x y k h1 h2
 ·cases h1:σ x with
  |none=>rw[h1] at hx;cases hx
  |some i=>
   rw[h1] at hx
   simp only[Option.map_some,Option.some.injEq] at hx
   subst hx
   exact hfar i (hσ1 x i h1).1 k hk
structure CC (P:Program) (tt:TT) (D:List Nat) (c:Code) (fr:List AV) (M:ac) (Q:dy):Prop where
 out:∃fr' M',bd D fr M fr' M'/\bO P tt D c fr' M' Q
theorem NB {D:List Nat} {c:Code} {fr fr':List AV} {M M':ac} {Q:dy} (hs:bd D fr M fr' M') (h:bO P tt D c fr' M' Q):CC P tt D c fr M Q:=⟨⟨fr',M',hs,h⟩⟩
theorem bd.refl (D:List Nat) (fr:List AV) (M:ac):bd D fr M fr M:=by
 rw[ng]
 intro S F ρ0 ρ a w h0 h1 hM hF
 exact⟨S,ρ,ah.le_refl _,h1,hM,hF⟩
theorem jj {D:List Nat} {c:Code} {fr:List AV} {M:ac} {Q:dy} (h:bO P tt D c fr M Q):CC P tt D c fr M Q:=⟨⟨fr,M,bd.refl D fr M,h⟩⟩
theorem a8.loopM {D:List Nat} (hT:bc P tt=true) (hm:P.follows .mixedOrders=true) {c:Code} {fr:List AV} {M:ac} {Q:dy} {X:Type _} (I:X->Prop) (us:X->List (Nat×AV)) (Mf:X->ac) (μ:X->Nat) (x0:X) (hi:I x0)
  (h:th (my c []) fun ms=>tj fr 0 ms fun fr0=>bd D fr M (rh fr0 (us x0)) (Mf x0)/\
   ∀x,I x->yO fr0 (us x) fun fr1=>CC P tt D c fr1 (Mf x) (tg D I (fun x=>rh fr0 (us x)) Mf μ x Q)):a8 P D (.loop c) fr M Q:=by
 rw[qu] at h
 obtain⟨fr0,h0,h⟩:=mz _ _ _ _ h
 refine a8.loop I (fun x=>rh fr0 (us x)) Mf μ x0 hi h0 fun x hx=>?_
 have:=h x hx
 rw[tk] at this
 obtain⟨fr2,M2,hs,hc⟩:=this.out
 exact a8.sub hs (fY hT hm _ _ _ _ hc)
end
end
end Go.Proofs.YtekmminpfhacpaaGreatDoor
