import Derived.Test.YtekmminpfhacpaaGreatDoorG4
set_option linter.unusedVariables false
set_option linter.unusedSimpArgs false
namespace Go.Proofs.YtekmminpfhacpaaGreatDoor
section
def eV (f:Nat->Option LM) (ρ:aE):aE:=fun x=>match f x with
 |some (.old ℓ)=>ρ ℓ
 |some (.nil sz)=>some ⟨0,0,0,sz,true⟩
 |none=>none
def rg (f:Nat->Option LM) (M:ag) (x:Nat) (B':bf):Prop:=
 match f x with
 |some (.old ℓ)=>∃B,M ℓ=some B/\(B'= .dead\/((∀b,B'.live b->B.live b)/\∀S F ρ w b,dK S F ρ w b B->dK S F (eV f ρ) w b B'))
 |some (.nil _)=>(∃(t:TypeId) (α:Type) (d:α) (enc:α->List AV),B'= .row t d enc [])\/∃t g,B'= .hdr t g 0
 |none=>False
structure cH (f:Nat->Option LM) (M M':ag):Prop where
 tell:∀x B',M' x=some B'->rg f M x B'
 keys:∀x y,f x=some y->M' x≠none
 olds:∀a b ℓ,f a=some (.old ℓ)->f b=some (.old ℓ)->M' a≠some .dead->M' b≠some .dead->a=b
section
variable {S F:ai} {ρ:aE} {M M':ag} {w:World} {P:Program} {tt:TT} {f:Nat->Option LM}
theorem cH.live (h:cH f M M') {x:Nat} {B':bf} (hB:M' x=some B') {b:fh} (hb:eV f ρ x=some b) (hl:B'.live b):∃ℓ B,f x=some (.old ℓ)/\M ℓ=some B/\ρ ℓ=some b/\B.live b/\B'≠ .dead:=by
 have ht:=h.tell x B' hB
 unfold rg at ht
 unfold eV at hb
 cases hf:f x with
 |none=>rw[hf] at hb;cases hb
 |some y=>
  rw[hf] at hb ht
  cases y with
  |old ℓ=>
   obtain⟨B,h1,h2⟩:=ht
   rcases h2 with rfl|⟨h2,h3⟩
   ·exact hl.elim
   ·exact⟨ℓ,B,rfl,h1,hb,h2 b hl,fun e=>by subst e;exact hl⟩
  |nil sz=>
   simp only[Option.some.injEq] at hb
   subst hb
   rcases ht with ⟨t,α,d,enc,rfl⟩|⟨t,g,rfl⟩
   ·simp[bf.live] at hl
   ·simp[bf.live] at hl
theorem aD.relabelG (hM:aD S F ρ M w) (h:cH f M M'):aD S F (eV f ρ) M' w:=by
 refine⟨hM.sw,hM.fw,hM.sf,fun x b hb=>?_,fun x B' hB'=>?_,fun x y B C b c h1 h2 h3 h4 h5 h6 hne=>?_,hM.gl⟩
 ·cases hf:f x with
  |none=>unfold eV at hb;rw[hf] at hb;cases hb
  |some y=>exact h.keys x y hf
 ·have ht:=h.tell x B' hB'
  unfold rg at ht
  cases hf:f x with
  |none=>rw[hf] at ht;exact ht.elim
  |some y=>
   rw[hf] at ht
   cases y with
   |old ℓ=>
    obtain⟨B,h1,h2⟩:=ht
    obtain⟨b,hb,hr⟩:=hM.blk _ _ h1
    refine⟨b,by unfold eV;rw[hf];exact hb,?_⟩
    rcases h2 with rfl|⟨_,h3⟩
    ·trivial
    ·exact h3 S F ρ w b hr
   |nil sz=>
    refine⟨⟨0,0,0,sz,true⟩,by unfold eV;rw[hf],?_⟩
    rcases ht with ⟨t,α,d,enc,rfl⟩|⟨t,g,rfl⟩
    ·exact⟨rfl,by simp, .inl ⟨rfl,rfl,rfl⟩⟩
    ·exact⟨[],rfl,fun i hi=>absurd hi (Nat.not_lt_zero _),rfl,by simp, .inl ⟨rfl,rfl,rfl⟩⟩
 ·obtain⟨ℓ1,B1,f1,m1,r1,l1,d1⟩:=h.live h1 h3 h5
  obtain⟨ℓ2,B2,f2,m2,r2,l2,d2⟩:=h.live h2 h4 h6
  refine hM.inj ℓ1 ℓ2 B1 B2 b c m1 m2 r1 r2 l1 l2 fun e=>?_
  subst e
  exact hne (h.olds x y ℓ1 f1 f2 (fun e=>d1 (by rw[h1] at e;exact Option.some.inj e)) (fun e=>d2 (by rw[h2] at e;exact Option.some.inj e)))
def eW (f:Nat->Option LM) (us us':List AV):Prop:=∀S ρ vs,bk S ρ vs us->bk S (eV f ρ) vs us'
def kx (f:Nat->Option LM) (u u':AV):Prop:=∀S ρ v,RV S ρ v u->RV S (eV f ρ) v u'
theorem i6 {lm:bc} (h:∀k y,aq lm k=some y->f k=some y):aE.le (bQ lm ρ) (eV f ρ):=by
 intro x b hb
 unfold bQ at hb
 unfold eV
 cases hf:aq lm x with
 |none=>rw[hf] at hb;cases hb
 |some y=>
  rw[hf] at hb
  rw[h x y hf]
  cases y with
  |old ℓ=>exact hb
  |nil sz=>exact hb
theorem eW.by_ {lm:bc} (n:Nat) {us us':List AV} (h:∀k y,aq lm k=some y->f k=some y) (ha:i3 lm n us us'):eW f us us':=
 fun _ _ vs hv=>((eU n).2 us us' vs ha hv).mono (ai.le_refl _) (i6 h)
theorem kx.by_ {lm:bc} (n:Nat) {u u':AV} (h:∀k y,aq lm k=some y->f k=some y) (ha:oW lm n u u'):kx f u u':=
 fun _ _ v hv=>((eU n).1 u u' v ha hv).mono (ai.le_refl _) (i6 h)
theorem kx.row {ℓ ℓ' n sz:Nat} (h:f ℓ'=some (.old ℓ)):kx f (.row ℓ n sz) (.row ℓ' n sz):=fun S ρ v hv=>by
 obtain⟨b,hb,h1,h2,h3,rfl⟩:=hv.row_inv
 exact .row ℓ' n sz b (by unfold eV;rw[h];exact hb) h1 h2 h3
theorem eW.one {u u':AV} (h:kx f u u'):eW f [u] [u']:=fun S ρ vs hv=>by
 obtain⟨v,vs',rfl,h1,h2⟩:=hv.cons_inv
 cases h2.nil_inv
 exact bk.cons (h S ρ v h1) (bk.nil _ _)
theorem aH.gen {D:List Nat} {fr fr':List AV} (f:Nat->Option LM) (h:cH f M M') (hD:∀d∈D,f d=some (.old d)) (hf:eW f fr fr'):aH D fr M fr' M':=by
 rw[m8]
 intro S F ρ0 ρ a w h0 h1 hM hF
 refine⟨S,eV f ρ,ai.le_refl _,fun ℓ b hb=>?_,hM.relabelG h,hf S ρ _ hF.1,hF.2⟩
 unfold eV
 rw[hD ℓ (h0 ℓ b hb)]
 exact h1 ℓ b hb
def cw (lm:bc) (ψ:Nat->Option Nat):Nat->Option LM:=fun x=>match aq lm x with
 |some y=>some y
 |none=>(ψ x).map .old
theorem cE {lm:bc} {ψ:Nat->Option Nat}:∀k y,aq lm k=some y->cw lm ψ k=some y:=fun k y h=>by unfold cw;rw[h]
theorem gw {lm:bc} {ψ:Nat->Option Nat} {x o:Nat} (h:aq lm x=none) (h2:ψ x=some o):cw lm ψ x=some (.old o):=by unfold cw;rw[h,h2];rfl
def ql (lm:bc) (n:Nat) (M:ag):List (Nat×bf)->Prop
 |[]=>True
 |(ℓ',B')::r=>(match B' with
  |.hdr _ _ _=>True
  |B'=>match aq lm ℓ' with
   |some (.old ℓ)=>nB lm n (M ℓ) B'
   |some (.nil _)=>match B' with
    |.row _ _ _ l=>l=[]
    |_=>False
   |none=>False)/\ql lm n M r
theorem tm {lm:bc} {n:Nat}:∀{L:List (Nat×bf)},ql lm n M L->∀ℓ' B',(ℓ',B')∈L->(∃t g m,B'= .hdr t g m)\/(match aq lm ℓ' with
   |some (.old ℓ)=>nB lm n (M ℓ) B'
   |some (.nil _)=>match B' with
    |.row _ _ _ l=>l=[]
    |_=>False
   |none=>False)
 |[],_,_,_,h=>by cases h
 |(k,C)::r,h,ℓ',B',hm=>by
  rcases List.mem_cons.1 hm with e|hm
  ·injection e with e1 e2
   subst e1;subst e2
   have h1:=h.1
   cases B' with
   |hdr t g m=>exact .inl ⟨t,g,m,rfl⟩
   |_=>exact .inr h1
  ·exact tm h.2 ℓ' B' hm
def Eb (lm:bc) (f:Nat->Option LM) (M:ag) (ℓ':Nat) (t:TypeId) (g':Nat->List AV) (m:Nat):Prop:=
 match aq lm ℓ' with
 |some (.old ℓ)=>∃g,M ℓ=some (.hdr t g m)/\∀i,i<m->eW f (g i) (g' i)
 |some (.nil _)=>m=0
 |none=>False
theorem Ec {lm:bc} {n ℓ:Nat} {B':bf} (h:∀k y,aq lm k=some y->f k=some y) (hb:nB lm n (M ℓ) B'):∃B,M ℓ=some B/\(B'= .dead\/((∀b,B'.live b->B.live b)/\∀S F ρ w b,dK S F ρ w b B->dK S F (eV f ρ) w b B')):=by
 unfold nB at hb
 split at hb
 ·rename_i B hM;exact⟨B,hM, .inl rfl⟩
 ·exact hb.elim
 ·rename_i t cs t' cs' hM
  refine⟨_,hM, .inr ⟨fun _ _=>trivial,?_⟩⟩
  split at hb
  ·rename_i ht
   have:=Nat.eq_of_beq_eq_true ht
   subst this
   rintro S F ρ w b ⟨vs,h1,h2,h3⟩
   exact⟨vs,h1,((eU n).2 cs cs' _ hb h2).mono (ai.le_refl _) (i6 h),h3⟩
  ·exact hb.elim
 ·rename_i t α d enc l t' α' d' enc' l' hM
  rw[hb] at hM
  exact⟨_,hM, .inr ⟨fun _ hl=>hl,fun S F ρ w b hr=>hr⟩⟩
 ·rename_i α d enc l α' d' enc' l' hM
  rw[hb] at hM
  exact⟨_,hM, .inr ⟨fun _ hl=>hl,fun S F ρ w b hr=>hr⟩⟩
 ·rename_i s p s' p' hM
  obtain⟨rfl,rfl⟩:=hb
  exact⟨_,hM, .inr ⟨fun _ hl=>hl,fun S F ρ w b hr=>hr⟩⟩
 ·rename_i hM
  rw[hb] at hM
  exact⟨_,hM, .inr ⟨fun _ hl=>hl,fun S F ρ w b hr=>hr⟩⟩
 ·rename_i hM
  rw[hb] at hM
  exact⟨_,hM, .inr ⟨fun _ hl=>hl,fun S F ρ w b hr=>hr⟩⟩
 ·exact hb.elim
def PE:bf->Bool
 |.row _ _ _ _=>true
 |.dead=>true
 |_=>false
structure KN (lm:bc) (L:List (Nat×bf)) (N:ag) (ψ:Nat->Option Nat) (M:ag):Prop where
 blk:∀x B',N x=some B'->aq lm x=none/\ag.ofL L x=none/\∃o B,ψ x=some o/\M o=some B/\(B'= .dead\/(B'=B/\PE B=true))
 key:∀x o,ψ x=some o->N x≠none
 inj:∀x y o,ψ x=some o->ψ y=some o->N x≠some .dead->N y≠some .dead->x=y
 far:∀x o k,ψ x=some o->N x≠some .dead->aq lm k=some (.old o)->ag.ofL L k=some .dead
theorem Jf:∀{lm:bc} {L:List (Nat×bf)},eG L lm=true->∀{a b ℓ:Nat},aq lm a=some (.old ℓ)->aq lm b=some (.old ℓ)->ag.ofL L a≠some .dead->ag.ofL L b≠some .dead->a=b:=by
 intro lm L ho a b ℓ ha hb h1 h2
 unfold eG at ho
 have fd:∀(l:bc) {c:Nat},aq l c=some (.old ℓ)->ag.ofL L c≠some .dead->aq (l.filter fun p=>ik L p.1) c=some (.old ℓ):=by
  intro l
  induction l with
  |nil=>intro c h _;simp[aq] at h
  |cons p r ih=>
   intro c h hd
   obtain⟨k,y⟩:=p
   simp only[aq] at h
   by_cases e:Nat.beq k c=true
   ·rw[e] at h
    have e1:=Nat.eq_of_beq_eq_true e
    subst e1
    have hnd:ik L k=true:=by
     unfold ik
     split
     ·rename_i h0;exact absurd h0 hd
     ·rfl
    rw[List.filter_cons,if_pos hnd]
    simp only[aq,e]
    exact h
   ·rw[Bool.not_eq_true] at e
    rw[e] at h
    rw[List.filter_cons]
    split
    ·simp only[aq,e];exact ih h hd
    ·exact ih h hd
 exact sS ho (fd lm ha h1) (fd lm hb h2)
theorem hJ (lm:bc) (L:List (Nat×bf)) (N:ag) (ψ:Nat->Option Nat) (n:Nat) (hs:(fA lm L&&eG L lm)=true) (hm:ql lm n M L)
  (hh:∀ℓ' t g' m,(ℓ',bf.hdr t g' m)∈L->Eb lm (cw lm ψ) M ℓ' t g' m) (hN:KN lm L N ψ M):cH (cw lm ψ) M (bh L N):=by
 rw[Bool.and_eq_true] at hs
 have hfree:∀x,aq lm x=none->∀B,ag.ofL L x=some B->False:=by
  intro x hx B hB
  have hmem:=fR hB
  rcases tm hm x B hmem with ⟨t,g,m,rfl⟩|h
  ·have:=hh x t g m hmem
   unfold Eb at this
   rw[hx] at this
   exact this
  ·rw[hx] at h;exact h
 refine⟨fun x B' hB'=>?_,fun x y hy=>?_,fun a b ℓ ha hb h1 h2=>?_⟩
 ·unfold bh at hB'
  cases hL:ag.ofL L x with
  |some B=>
   rw[hL] at hB'
   cases hB'
   have hmem:=fR hL
   rcases tm hm x B' hmem with ⟨t,g,m,rfl⟩|h
   ·have h2:=hh x t g m hmem
    unfold Eb at h2
    unfold rg
    cases hf:aq lm x with
    |none=>rw[hf] at h2;exact h2.elim
    |some y=>
     rw[cE x y hf]
     rw[hf] at h2
     cases y with
     |old ℓ=>
      obtain⟨g0,h3,h4⟩:=h2
      refine⟨_,h3, .inr ⟨fun _ hl=>hl,?_⟩⟩
      rintro S F ρ w b ⟨l,hlm,hg,hr⟩
      exact⟨l,hlm,fun i hi=>h4 i hi S ρ _ (hg i hi),hr⟩
     |nil sz=>subst h2;exact .inr ⟨t,g,rfl⟩
   ·unfold rg
    cases hf:aq lm x with
    |none=>rw[hf] at h;exact h.elim
    |some y=>
     rw[cE x y hf]
     rw[hf] at h
     cases y with
     |old ℓ=>exact Ec cE h
     |nil sz=>
      simp only at h
      split at h
      ·rename_i t α d enc l
       subst h
       exact .inl ⟨_,_,_,_,rfl⟩
      ·exact h.elim
  |none=>
   rw[hL] at hB'
   obtain⟨h1,_,o,B,h3,h4,h5⟩:=hN.blk x B' hB'
   unfold rg
   rw[gw h1 h3]
   refine⟨B,h4,?_⟩
   rcases h5 with rfl|⟨rfl,h6⟩
   ·exact .inl rfl
   ·refine .inr ⟨fun _ hl=>hl,fun S F ρ w b hr=>?_⟩
    cases B' with
    |row t d enc l=>exact hr
    |dead=>trivial
    |_=>cases h6
 ·unfold bh
  cases hL:ag.ofL L x with
  |some B=>simp
  |none=>
   cases hf:aq lm x with
   |some z=>
    have:=List.all_eq_true.1 hs.1 _ (bd hf)
    simp only at this
    rw[hL] at this;cases this
   |none=>
    unfold cw at hy
    rw[hf] at hy
    cases hψ:ψ x with
    |none=>rw[hψ] at hy;cases hy
    |some o=>exact hN.key x o hψ
 ·have src:∀c,cw lm ψ c=some (.old ℓ)->bh L N c≠some .dead->(aq lm c=some (.old ℓ)/\ag.ofL L c≠some .dead)\/(aq lm c=none/\ψ c=some ℓ/\N c≠some .dead):=by
   intro c hc hd
   unfold cw at hc
   cases hf:aq lm c with
   |some z=>
    rw[hf] at hc
    cases hc
    refine .inl ⟨rfl,fun e=>hd ?_⟩
    unfold bh;rw[e]
   |none=>
    rw[hf] at hc
    cases hψ:ψ c with
    |none=>rw[hψ] at hc;cases hc
    |some o=>
     rw[hψ] at hc
     cases hc
     refine .inr ⟨rfl,rfl,fun e=>hd ?_⟩
     unfold bh
     cases hL:ag.ofL L c with
     |some B=>exact(hfree c hf B hL).elim
     |none=>exact e
  rcases src a ha h1 with ⟨a1,a2⟩|⟨a1,a2,a3⟩
  ·rcases src b hb h2 with ⟨b1,b2⟩|⟨b1,b2,b3⟩
   ·exact Jf hs.2 a1 b1 a2 b2
   ·exact absurd (hN.far b ℓ a b2 b3 a1) a2
  ·rcases src b hb h2 with ⟨b1,b2⟩|⟨b1,b2,b3⟩
   ·exact absurd (hN.far a ℓ b a2 a3 b1) b2
   ·exact hN.inj a b ℓ a2 b2 a3 b3
theorem aH.fam {D:List Nat} {fr fr':List AV} (lm:bc) (L:List (Nat×bf)) (N:ag) (ψ:Nat->Option Nat) (n:Nat) (hs:(fA lm L&&eG L lm)=true) (hm:ql lm n M L)
  (hh:∀ℓ' t g' m,(ℓ',bf.hdr t g' m)∈L->Eb lm (cw lm ψ) M ℓ' t g' m) (hN:KN lm L N ψ M) (hD:∀d∈D,cw lm ψ d=some (.old d)) (hf:i3 lm n fr fr'):aH D fr M fr' (bh L N):=
 aH.gen (cw lm ψ) (hJ lm L N ψ n hs hm hh hN) hD (eW.by_ n cE hf)
def iW (N2 M:ag):ag:=fun x=>match N2 x with
 |some B=>some B
 |none=>M x
theorem aj.callG {g:FuncId} {args args':List AV} {K R:AV->ag->Prop} (f1:Nat->Option LM) (M0:ag) (hr1:cH f1 M M0) (ha:eW f1 args args') (h:aj P g args' M0 R)
  (hk:∀u M',R u M'->∃(f2:Nat->Option LM) (N2:ag) (u':AV),cH f2 M' N2/\(∀x ℓ,f1 x=some (.old ℓ)->f2 ℓ=some (.old x))/\(∀ℓ y,f2 ℓ=some y->(∃x,f1 x=some (.old ℓ))\/M ℓ=none)/\kx f2 u u'/\K u' (iW N2 M)):aj P g args M K:=by
 rw[ce] at h⊢
 refine⟨h.1,fun S F ρ vs w hM hv=>?_⟩
 let own:Nat->Prop:=fun ℓ=>∃x,f1 x=some (.old ℓ)
 have hMr:=hM.relabelG hr1
 have hlive:∀x B' b,M0 x=some B'->eV f1 ρ x=some b->B'.live b->eE F ρ M w own b.blk=none:=by
  intro x B' b hB' hb hl
  obtain⟨b',hb',hr'⟩:=hMr.blk _ _ hB'
  rw[hb] at hb';cases hb'
  have hFb:=(hr'.off hl).2
  obtain⟨ℓ,B,hf,hML,hρ,hBl,_⟩:=hr1.live hB' hb hl
  unfold eE
  rw[if_neg]
  ·exact hFb
  ·rintro⟨y,C,c,g1,g2,g3,g4,g5⟩
   refine hM.inj y ℓ C B c b g1 hML g2 hρ g3 hBl (fun e=>?_) g4
   subst e
   exact g5 ⟨x,hf⟩
 have hMc:=hMr.reF (mZ (own:=own) hM) (oV hM) hlive
 refine(h.2 S (eE F ρ M w own) (eV f1 ρ) vs w hMc (ha S ρ vs hv)).mono ?_
 rintro e w' ⟨v,u,M',S',ρ',rfl,hR,hle,hρ,hM',hr,hw⟩
 obtain⟨f2,N2,u',hr2,hb3,hb4,hau,hK⟩:=hk u M' hR
 have hM2:=hM'.relabelG hr2
 let ρ2:aE:=fun ℓ=>match eV f2 ρ' ℓ with
  |some b=>some b
  |none=>ρ ℓ
 have hle1:aE.le (eV f2 ρ') ρ2:=fun ℓ b hb=>by show(match eV f2 ρ' ℓ with|some b=>some b|none=>ρ ℓ)=_;rw[hb]
 have hle2:aE.le ρ ρ2:=by
  intro ℓ b hb
  show(match eV f2 ρ' ℓ with|some b=>some b|none=>ρ ℓ)=_
  cases hf:f2 ℓ with
  |none=>
   have:eV f2 ρ' ℓ=none:=by unfold eV;rw[hf]
   rw[this];exact hb
  |some y=>
   rcases hb4 ℓ y hf with ⟨x,hx⟩|hn
   ·have he:eV f1 ρ x=some b:=by unfold eV;rw[hx];exact hb
    have h2:eV f2 ρ' ℓ=some b:=by unfold eV;rw[hb3 x ℓ hx];exact hρ _ _ he
    rw[h2]
   ·exact absurd hn (hM.dom ℓ b hb)
 have hF:∀k o,F k=some o->eE F ρ M w own k=some o:=kv hM
 have framed:∀ℓ B b,N2 ℓ=none->M ℓ=some B->ρ ℓ=some b->B.live b->eE F ρ M w own b.blk=w.heap[b.blk]?:=by
  intro ℓ B b h0 h1 h2 h3
  exact kW h1 h2 h3 fun⟨x,hf⟩=>hr2.keys ℓ _ (hb3 x ℓ hf) h0
 refine⟨v,u',iW N2 M,S',ρ2,rfl,hK,hle,hle2,⟨hM'.sw,fun k o hk=>hM'.fw k o (hF k o hk),fun k=>?_,fun ℓ b hb=>?_,fun ℓ B hB=>?_,fun x y B C b c h1 h2 h3 h4 h5 h6 hne=>?_,hM'.gl⟩,(hau S' ρ' v hr).mono (ai.le_refl _) hle1,hw⟩
 ·rcases hM'.sf k with h1|h1
  ·exact .inl h1
  ·right
   cases hk:F k with
   |none=>rfl
   |some o=>rw[hF k o hk] at h1;cases h1
 ·unfold iW
  cases h2:N2 ℓ with
  |some B=>simp
  |none=>
   have hb:(match eV f2 ρ' ℓ with|some b=>some b|none=>ρ ℓ)=some b:=hb
   cases h3:eV f2 ρ' ℓ with
   |some b'=>exact absurd h2 (hM2.dom _ _ h3)
   |none=>rw[h3] at hb;exact hM.dom _ _ hb
 ·unfold iW at hB
  cases h2:N2 ℓ with
  |some B'=>
   rw[h2] at hB
   cases hB
   obtain⟨b,hb,hr3⟩:=hM2.blk _ _ h2
   refine⟨b,hle1 _ _ hb,(hr3.keep (ai.le_refl _) hle1 fun _=>⟨rfl,rfl⟩).reF fun hl=>?_⟩
   have:=(hr3.off hl).2
   cases hk:F b.blk with
   |none=>rfl
   |some o=>rw[hF _ o hk] at this;cases this
  |none=>
   rw[h2] at hB
   obtain⟨b,hb,hr3⟩:=hM.blk _ _ hB
   refine⟨b,hle2 _ _ hb,hr3.keep hle hle2 fun hl=>?_⟩
   have hk:=framed ℓ B b h2 hB hb hl
   obtain⟨o,ho⟩:∃o,w.heap[b.blk]? =some o:=⟨_,Array.getElem?_eq_getElem (hr3.lt hl)⟩
   refine⟨by rw[hM'.fw _ o (hk.trans ho),ho],?_⟩
   rw[(hr3.off hl).1]
   rcases hM'.sf b.blk with h1|h1
   ·exact h1
   ·rw[hk,ho] at h1;cases h1
 ·have back:∀z D d,iW N2 M z=some D->ρ2 z=some d->D.live d->(N2 z=some D/\eV f2 ρ' z=some d)\/(N2 z=none/\M z=some D/\ρ z=some d):=by
   intro z D d hD hd hl
   unfold iW at hD
   cases hz:N2 z with
   |some D'=>
    rw[hz] at hD;cases hD
    obtain⟨b',hb',_⟩:=hM2.blk _ _ hz
    have:=hle1 _ _ hb'
    rw[hd] at this;cases this
    exact .inl ⟨rfl,hb'⟩
   |none=>
    rw[hz] at hD
    obtain⟨b',hb',_⟩:=hM.blk _ _ hD
    have:=hle2 _ _ hb'
    rw[hd] at this;cases this
    exact .inr ⟨rfl,hD,hb'⟩
  have mixed:∀z D d z' D' d',N2 z=some D->eV f2 ρ' z=some d->D.live d->N2 z'=none->M z'=some D'->ρ z'=some d'->D'.live d'->d.blk≠d'.blk:=by
   intro z D d z' D' d' a1 a2 a3 a4 a5 a6 a7 e
   obtain⟨b',hb',hr3⟩:=hM2.blk _ _ a1
   rw[a2] at hb';cases hb'
   have h1:=(hr3.off a3).2
   have h2:=framed z' D' d' a4 a5 a6 a7
   obtain⟨c',hc',hr4⟩:=hM.blk _ _ a5
   rw[a6] at hc';cases hc'
   rw[e,h2,Array.getElem?_eq_getElem (hr4.lt a7)] at h1
   cases h1
  rcases back x B b h1 h3 h5 with ⟨p1,p2⟩|⟨p0,p1,p2⟩<;>rcases back y C c h2 h4 h6 with ⟨q1,q2⟩|⟨q0,q1,q2⟩
  ·exact hM2.inj x y B C b c p1 q1 p2 q2 h5 h6 hne
  ·exact mixed x B b y C c p1 p2 h5 q0 q1 q2 h6
  ·exact fun e=>mixed y C c x B b q1 q2 h6 p0 p1 p2 h5 e.symm
  ·exact hM.inj x y B C b c p1 q1 p2 q2 h5 h6 hne
open Classical in
noncomputable def dZ (M0:ag) (D:List Nat) (M:ag):ag:=fun x=>if M0 x≠none/\x∉D then some .dead else M x
theorem tn {M0:ag} {D:List Nat} {M:ag} {x:Nat} (h:x∈D):dZ M0 D M x=M x:=by
 unfold dZ;rw[if_neg (fun hh=>hh.2 h)]
theorem vy {M0:ag} {D:List Nat} {M:ag} {x:Nat} (h:M0 x=none):dZ M0 D M x=M x:=by
 unfold dZ;rw[if_neg (fun hh=>hh.1 h)]
theorem nc {M0:ag} {D:List Nat} {M:ag} {x:Nat} (h:M0 x≠none) (h2:x∉D):dZ M0 D M x=some .dead:=by
 unfold dZ;rw[if_pos ⟨h,h2⟩]
theorem aj.introG (hT:bn P tt=true) (hm:P.follows .mixedOrders=true) {g:FuncId} {fn:Func} {c:Code} {args args':List AV} {M0 M1:ag} (f0:Nat->Option LM) (D:List Nat) {R:AV->ag->Prop} (hr:cH f0 M0 M1) (hD:∀d∈D,f0 d=some (.old d)) (ha:eW f0 args args')
  (hf:P.funcs[g]? =some fn) (hb:fn.body=some c) (hn:(fn.name== "runtime.NumGoroutine")=false)
  (h:uM args' (fn.ntmps-args'.length) fun fr=>bX P tt D c fr M1 (Jb tt fn.results.toList fun u M=>(∀x,M0 x≠none->x∉D->M x=none)/\R u (dZ M0 D M))):aj P g args M0 R:=by
 rw[ce]
 refine⟨mq hf hb hn,fun S F ρ vs w hM hv=>?_⟩
 have hM1:=hM.relabelG hr
 have hlen:=(ha S ρ vs hv).1
 let ρ0:aE:=fun x=>open Classical in if x∈D then ρ x else none
 have hρ0:∀x b,ρ0 x=some b->x∈D/\ρ x=some b:=by
  intro x b hx
  have hx:(open Classical in if x∈D then ρ x else none)=some b:=hx
  split at hx
  ·rename_i h1;exact⟨h1,hx⟩
  ·cases hx
 have hw:aJ P D c (args'++List.replicate (fn.ntmps-args'.length) (.tup [])) M1 (Jb tt fn.results.toList fun u M=>(∀x,M0 x≠none->x∉D->M x=none)/\R u (dZ M0 D M)):=by
  rw[eJ] at h;exact js hT hm c _ _ _ h
 rw[dn] at hw
 refine calls_of_wp hf hb ?_
 have hvs:=ha S ρ vs hv
 have hF:fJ S (eV f0 ρ) {tmps:=vs.toArray++Array.replicate (fn.ntmps-vs.toArray.size) undef,defers:=[]} (args'++List.replicate (fn.ntmps-args'.length) (.tup [])):=by
  refine⟨?_,rfl⟩
  have e:(vs.toArray++Array.replicate (fn.ntmps-vs.toArray.size) undef).toList=vs++List.replicate (fn.ntmps-args'.length) undef:=by simp[hlen]
  rw[e]
  refine hvs.append ⟨by simp,fun i u hu=>?_⟩
  have hi:=(List.getElem?_eq_some_iff.1 hu).1
  simp only[List.length_replicate] at hi
  have hu':u= .tup []:=by
   rw[List.getElem?_replicate] at hu
   simp[hi] at hu
   exact hu.symm
  subst hu'
  exact⟨undef,by simp[hi],RV.tup_mk (bk.nil _ _)⟩
 refine wp_mono (hw S F ρ0 (eV f0 ρ) _ w (fun ℓ b hb=>(hρ0 ℓ b hb).1) (fun ℓ b hb=>?_) hM1 hF) ?_
 ·obtain⟨h1,h2⟩:=hρ0 ℓ b hb
  unfold eV
  rw[hD ℓ h1]
  exact h2
 rintro e a' w' ⟨x,hx,ha'⟩
 have hd:a'.defers=[]:=by obtain⟨_,_,_,_,_,_,_,_,hF',_⟩:=ha';exact hF'.2
 obtain⟨fr,M',S',ρ',hk,h1,h2,h3,h4,h5⟩:=ha'
 have fin:(nD tt fr M' fn.results.toList fun us=>jt us M' fun us' M''=>(∀x,M0 x≠none->x∉D->M'' x=none)/\R (gt us') (dZ M0 D M''))->∃v,(results fn a'.tmps).run P w'= .ok v w'/\md S F ρ w R (.returned v) w':=by
  intro hk
  obtain⟨vs',us,hK,hvs',hl,hrr⟩:=lg hT h3 h4 _ _ hk
  obtain⟨us',M2,S2,⟨hq,hR⟩,hle,hvs2,hM2⟩:=gu _ _ _ _ _ hK hvs' h3
  let ρ2:aE:=fun x=>open Classical in if M0 x≠none/\x∉D then ρ x else ρ' x
  have hin:∀{x},¬(M0 x≠none/\x∉D)->ρ2 x=ρ' x:=fun{x} hh=>by show(open Classical in if M0 x≠none/\x∉D then ρ x else ρ' x)=_;rw[if_neg hh]
  have hout:∀{x},(M0 x≠none/\x∉D)->ρ2 x=ρ x:=fun{x} hh=>by show(open Classical in if M0 x≠none/\x∉D then ρ x else ρ' x)=_;rw[if_pos hh]
  have hle2:aE.le ρ' ρ2:=by
   intro x b hb
   rw[hin,hb]
   rintro⟨h6,h7⟩
   exact hM2.dom x b hb (hq x h6 h7)
  have hle3:aE.le ρ ρ2:=by
   intro x b hb
   by_cases hh:M0 x≠none/\x∉D
   ·rw[hout hh,hb]
   ·rw[hin hh]
    have hx0:=hM.dom x b hb
    have hxD:x∈D:=Classical.not_not.1 fun h8=>hh ⟨hx0,h8⟩
    refine h2 x b ?_
    show(open Classical in if x∈D then ρ x else none)=some b
    rw[if_pos hxD,hb]
  have get:∀x B,dZ M0 D M2 x=some B->(∃b,ρ2 x=some b/\B.live b)->M2 x=some B/\ρ2 x=ρ' x:=by
   rintro x B hB ⟨b,_,hl⟩
   by_cases hh:M0 x≠none/\x∉D
   ·rw[nc hh.1 hh.2] at hB;cases hB;exact hl.elim
   ·unfold dZ at hB
    rw[if_neg hh] at hB
    exact⟨hB,hin hh⟩
  refine⟨_,iz hrr,_,_,dZ M0 D M2,S2,ρ2,rfl,hR,ai.le_trans h1 hle,hle3,⟨hM2.sw,hM2.fw,hM2.sf,fun x b hb=>?_,fun x B hB=>?_,fun x y B C b c g1 g2 g3 g4 g5 g6 hne=>?_,hM2.gl⟩,(mo hvs2).mono (ai.le_refl _) hle2,h5⟩
  ·by_cases hh:M0 x≠none/\x∉D
   ·rw[nc hh.1 hh.2];simp
   ·rw[hin hh] at hb
    unfold dZ
    rw[if_neg hh]
    exact hM2.dom x b hb
  ·by_cases hh:M0 x≠none/\x∉D
   ·rw[nc hh.1 hh.2] at hB
    cases hB
    cases hM0:M0 x with
    |none=>exact absurd hM0 hh.1
    |some B0=>
     obtain⟨b,hb,_⟩:=hM.blk x B0 hM0
     exact⟨b,by rw[hout hh,hb],trivial⟩
   ·unfold dZ at hB
    rw[if_neg hh] at hB
    obtain⟨b,hb,hrb⟩:=hM2.blk x B hB
    exact⟨b,by rw[hin hh,hb],hrb.keep (ai.le_refl _) hle2 fun _=>⟨rfl,rfl⟩⟩
  ·obtain⟨k1,k2⟩:=get x B g1 ⟨b,g3,g5⟩
   obtain⟨k3,k4⟩:=get y C g2 ⟨c,g4,g6⟩
   rw[k2] at g3
   rw[k4] at g4
   exact hM2.inj x y B C b c k1 k3 g3 g4 g5 g6 hne
 cases x with
 |normal=>
  obtain⟨v,hv1,hv2⟩:=fin hk
  cases e<;>first|exact⟨hd,v,hv1,hv2⟩|(cases hx;done)
 |ret=>
  obtain⟨v,hv1,hv2⟩:=fin hk
  cases e<;>first|exact⟨hd,v,hv1,hv2⟩|(cases hx;done)
 |exit i=>exact hk.elim
end
end
section
def Ed:List (Nat×Nat)->Nat->Option Nat
 |[],_=>none
 |(y,k)::r,x=>match Nat.beq y x with
  |true=>some k
  |false=>Ed r x
def Ff:List (Nat×Nat)->Nat->Bool
 |[],_=>false
 |(_,k')::r,k=>match Nat.beq k' k with
  |true=>true
  |false=>Ff r k
def jj (p m:Nat) (a:List (Nat×Nat)) (x:Nat):Option Nat:=match Ed a x with
 |some k=>some k
 |none=>match Nat.ble p x&&Nat.blt (x-p) m with
  |true=>(match Ff a (x-p) with
   |true=>none
   |false=>some (x-p))
  |false=>none
def fm (p:Nat):List (Nat×Nat)->Nat->Nat
 |[],k=>p+k
 |(y,k')::r,k=>match Nat.beq k' k with
  |true=>y
  |false=>fm p r k
def LD (p m:Nat):List (Nat×Nat)->Prop
 |[]=>True
 |(y,k)::r=>y<p/\k<m/\(∀q∈r,q.1≠y/\q.2≠k)/\LD p m r
theorem o9 {a b:Nat} (h:a≠b):Nat.beq a b=false:=by rw[Bool.eq_false_iff];exact fun e=>h (Nat.eq_of_beq_eq_true e)
theorem pb:∀{a:List (Nat×Nat)} {x k:Nat},Ed a x=some k->(x,k)∈a
 |(y,k')::r,x,k,h=>by
  rw[Ed] at h
  split at h
  ·rename_i hb
   have:=Nat.eq_of_beq_eq_true hb
   subst this
   cases h
   exact List.mem_cons_self
  ·exact List.mem_cons_of_mem _ (pb h)
theorem pe {p m:Nat}:∀{a:List (Nat×Nat)} {x k:Nat},LD p m a->(x,k)∈a->x<p/\k<m/\Ed a x=some k/\fm p a k=x/\Ff a k=true
 |(y,k')::r,x,k,hw,h=>by
  rcases List.mem_cons.1 h with e|h
  ·injection e with e1 e2
   subst e1;subst e2
   exact⟨hw.1,hw.2.1,by rw[Ed,Nat.beq_refl],by rw[fm,Nat.beq_refl],by rw[Ff,Nat.beq_refl]⟩
  ·obtain⟨h1,h2,h3,h4,h5⟩:=pe hw.2.2.2 h
   have hne:=hw.2.2.1 _ h
   refine⟨h1,h2,?_,?_,?_⟩
   ·rw[Ed,o9 (fun e=>hne.1 e.symm)];exact h3
   ·rw[fm,o9 (fun e=>hne.2 e.symm)];exact h4
   ·rw[Ff,o9 (fun e=>hne.2 e.symm)];exact h5
theorem pf {p:Nat}:∀{a:List (Nat×Nat)} {k:Nat},Ff a k=false->fm p a k=p+k
 |[],k,_=>rfl
 |(y,k')::r,k,h=>by
  rw[Ff] at h
  split at h
  ·cases h
  ·rename_i hb
   rw[fm,hb]
   exact pf h
theorem wW:∀{a:List (Nat×Nat)} {k:Nat},Ff a k=true->∃x,(x,k)∈a
 |(y,k')::r,k,h=>by
  rw[Ff] at h
  split at h
  ·rename_i hb
   have:=Nat.eq_of_beq_eq_true hb
   subst this
   exact⟨y,List.mem_cons_self⟩
  ·obtain⟨x,hx⟩:=wW h
   exact⟨x,List.mem_cons_of_mem _ hx⟩
theorem LE {p m:Nat} {a:List (Nat×Nat)} {k:Nat} (h:LD p m a):fm p a k=p+k\/∃q∈a,q.1=fm p a k/\q.2=k:=by
 cases hi:Ff a k with
 |false=>exact .inl (pf hi)
 |true=>
  obtain⟨x,hx⟩:=wW hi
  exact .inr ⟨_,hx,(pe h hx).2.2.2.1.symm,rfl⟩
theorem cx {p m:Nat} {a:List (Nat×Nat)} {x k:Nat} (hw:LD p m a) (h:jj p m a x=some k):k<m/\fm p a k=x:=by
 unfold jj at h
 split at h
 ·rename_i k' hk
  cases h
  have:=pe hw (pb hk)
  exact⟨this.2.1,this.2.2.2.1⟩
 ·split at h
  ·rename_i hb
   rw[Bool.and_eq_true] at hb
   have h1:=Nat.le_of_ble_eq_true hb.1
   have h2:x-p<m:=by have:=hb.2;simp[Nat.blt] at this;omega
   split at h
   ·cases h
   ·rename_i hi
    cases h
    exact⟨h2,by rw[pf hi];omega⟩
  ·cases h
theorem lh {p m:Nat} {a:List (Nat×Nat)} {k:Nat} (hw:LD p m a) (h:k<m):jj p m a (fm p a k)=some k:=by
 cases hi:Ff a k with
 |true=>
  obtain⟨x,hx⟩:=wW hi
  have:=pe hw hx
  rw[this.2.2.2.1]
  unfold jj
  rw[this.2.2.1]
 |false=>
  rw[pf hi]
  have hn:Ed a (p+k)=none:=by
   cases hf:Ed a (p+k) with
   |none=>rfl
   |some k'=>
    have:=(pe hw (pb hf)).1
    omega
  unfold jj
  rw[hn]
  have h1:Nat.ble p (p+k)=true:=Nat.ble_eq_true_of_le (by omega)
  have h2:Nat.blt (p+k-p) m=true:=by simp[Nat.blt];omega
  rw[h1,h2,Nat.add_sub_cancel_left,hi]
  rfl
theorem pg {p m:Nat} {a:List (Nat×Nat)} (hw:LD p m a) {k k':Nat} (h:k<m) (h':k'<m) (e:fm p a k=fm p a k'):k=k':=by
 have h1:=lh hw h
 rw[e,lh hw h'] at h1
 exact(Option.some.inj h1).symm
theorem Jg {p m:Nat} {a:List (Nat×Nat)} {x k:Nat} (h:jj p m a x=some k):p<=x\/∃q∈a,q.1=x:=by
 unfold jj at h
 split at h
 ·rename_i k' hk
  exact .inr ⟨_,pb hk,rfl⟩
 ·split at h
  ·rename_i hb
   rw[Bool.and_eq_true] at hb
   exact .inl (Nat.le_of_ble_eq_true hb.1)
  ·cases h
theorem tp {lm lmX:bc} {f:Nat->Option LM} (h1:∀k y,aq lm k=some y->f k=some y) (h2:∀q∈lmX,f q.1=some q.2):∀k y,aq (lm++lmX) k=some y->f k=some y:=by
 induction lm with
 |nil=>exact fun k y h=>h2 _ (bd h)
 |cons p r ih=>
  obtain⟨k0,y0⟩:=p
  intro k y h
  rw[List.cons_append,aq] at h
  by_cases e:Nat.beq k0 k=true
  ·rw[e] at h
   cases h
   have:=Nat.eq_of_beq_eq_true e
   subst this
   exact h1 k0 y0 (by rw[aq,Nat.beq_refl])
  ·rw[Bool.not_eq_true] at e
   rw[e] at h
   have hr:=bd h
   rcases List.mem_append.1 hr with h3|h3
   ·by_cases hk:∃y',aq r k=some y'
    ·obtain⟨y',hy'⟩:=hk
     have h4:=h1 k y' (by rw[aq,e];exact hy')
     have app:∀(a b:bc) {z:LM},aq a k=some z->aq (a++b) k=some z:=by
      intro a b z hz
      induction a with
      |nil=>cases hz
      |cons q a iha=>
       obtain⟨k1,z1⟩:=q
       rw[List.cons_append,aq]
       rw[aq] at hz
       split
       ·rename_i hb;rw[hb] at hz;exact hz
       ·rename_i hb;rw[hb] at hz;exact iha hz
     rw[app r lmX hy'] at h
     cases h
     exact h4
    ·exfalso
     have:∀(a:bc) {z:LM},(k,z)∈a->∃y',aq a k=some y':=by
      intro a z hz
      induction a with
      |nil=>cases hz
      |cons q a iha=>
       obtain⟨k1,z1⟩:=q
       rw[aq]
       by_cases hb:Nat.beq k1 k=true
       ·rw[hb];exact⟨_,rfl⟩
       ·rw[Bool.not_eq_true] at hb
        rw[hb]
        rcases List.mem_cons.1 hz with h5|h5
        ·injection h5 with h6 _
         subst h6
         rw[Nat.beq_refl] at hb;cases hb
        ·exact iha h5
     exact hk (this r h3)
   ·by_cases hk:∃y',aq r k=some y'
    ·obtain⟨y',hy'⟩:=hk
     have h4:=h1 k y' (by rw[aq,e];exact hy')
     have app:∀(a b:bc) {z:LM},aq a k=some z->aq (a++b) k=some z:=by
      intro a b z hz
      induction a with
      |nil=>cases hz
      |cons q a iha=>
       obtain⟨k1,z1⟩:=q
       rw[List.cons_append,aq]
       rw[aq] at hz
       split
       ·rename_i hb;rw[hb] at hz;exact hz
       ·rename_i hb;rw[hb] at hz;exact iha hz
     rw[app r lmX hy'] at h
     cases h
     exact h4
    ·exact h2 _ h3
def iA (ti:TypeId) (σ:Nat->Option Nat) (c:Nat->List Int):ag:=fun x=>match σ x with
 |some k=>some (.row ti 0 al (c k))
 |none=>none
theorem LG {lm:bc} {p:Nat} (h:lm.all (fun q=>Nat.blt q.1 p)=true) {x:Nat} (hx:p<=x):aq lm x=none:=by
 cases hf:aq lm x with
 |none=>rfl
 |some y=>
  have:=List.all_eq_true.1 h _ (bd hf)
  simp[Nat.blt] at this
  omega
theorem Jh {L:List (Nat×bf)} {p:Nat} (h:L.all (fun q=>Nat.blt q.1 p)=true) {x:Nat} (hx:p<=x):ag.ofL L x=none:=by
 cases hf:ag.ofL L x with
 |none=>rfl
 |some y=>
  have:=List.all_eq_true.1 h _ (fR hf)
  simp[Nat.blt] at this
  omega
section
variable {M:ag} {P:Program} {tt:TT}
theorem tq (lm:bc) (L:List (Nat×bf)) (n:Nat) (hd:Nat) (t0 ti:TypeId) (w m:Nat) (c:Nat->List Int) (σ:Nat->Option Nat) (lab lab':Nat->Nat)
  (hs:(fA lm L&&eG L lm)=true) (hm:ql lm n M L) (hL:∀ℓ t g m',(ℓ,bf.hdr t g m')∈L->ℓ=hd/\t=t0/\m'=m/\∀k,k<m->g k=[.row (lab' k) w 1])
  (h4:aq lm hd=some (.old hd)) (hg:∃g,M hd=some (.hdr t0 g m)/\∀k,k<m->g k=[.row (lab k) w 1]) (hrow:∀k,k<m->M (lab k)=some (.row ti 0 al (c k)))
  (hσ1:∀x k,σ x=some k->k<m/\aq lm x=none/\ag.ofL L x=none) (hσ2:∀x y k,σ x=some k->σ y=some k->x=y) (hσ3:∀k,k<m->σ (lab' k)=some k)
  (hlab:∀k k',k<m->k'<m->lab k=lab k'->k=k') (hfar:∀k,k<m->∀y,aq lm y=some (.old (lab k))->ag.ofL L y=some .dead):
  cH (cw lm fun x=>(σ x).map lab) M (bh L (iA ti σ c)):=by
 refine hJ lm L _ _ n hs hm (fun ℓ t g m' hmem=>?_) ⟨fun x B' hB=>?_,fun x o hx=>?_,fun x y o hx hy _ _=>?_,fun x o k hx _ hk=>?_⟩
 ·obtain⟨rfl,rfl,rfl,hgg⟩:=hL ℓ t g m' hmem
  unfold Eb
  rw[h4]
  obtain⟨g0,h1,h2⟩:=hg
  refine⟨g0,h1,fun i hi=>?_⟩
  rw[h2 i hi,hgg i hi]
  refine eW.one (kx.row (gw (hσ1 _ _ (hσ3 i hi)).2.1 ?_))
  rw[hσ3 i hi];rfl
 ·unfold iA at hB
  split at hB
  ·rename_i k hk
   cases hB
   obtain⟨h1,h2,h3⟩:=hσ1 x k hk
   refine⟨h2,h3,lab k,_,by rw[hk];rfl,hrow k h1, .inr ⟨rfl,rfl⟩⟩
  ·cases hB
 ·unfold iA
  cases hσx:σ x with
  |none=>rw[hσx] at hx;cases hx
  |some k=>simp
 ·cases h1:σ x with
  |none=>rw[h1] at hx;cases hx
  |some k=>
   cases h2:σ y with
   |none=>rw[h2] at hy;cases hy
   |some k'=>
    rw[h1] at hx
    rw[h2] at hy
    simp only[Option.map_some,Option.some.injEq] at hx hy
    have:=hlab k k' (hσ1 x k h1).1 (hσ1 y k' h2).1 (hx.trans hy.symm)
    subst this
    exact hσ2 x y k h1 h2
 ·cases h1:σ x with
  |none=>rw[h1] at hx;cases hx
  |some i=>
   rw[h1] at hx
   simp only[Option.map_some,Option.some.injEq] at hx
   subst hx
   exact hfar i (hσ1 x i h1).1 k hk
structure Cy (P:Program) (tt:TT) (D:List Nat) (c:Code) (fr:List AV) (M:ag) (Q:dY):Prop where
 out:∃fr' M',aH D fr M fr' M'/\bX P tt D c fr' M' Q
theorem LH {D:List Nat} {c:Code} {fr fr':List AV} {M M':ag} {Q:dY} (hs:aH D fr M fr' M') (h:bX P tt D c fr' M' Q):Cy P tt D c fr M Q:=⟨⟨fr',M',hs,h⟩⟩
theorem aH.refl (D:List Nat) (fr:List AV) (M:ag):aH D fr M fr M:=by
 rw[m8]
 intro S F ρ0 ρ a w h0 h1 hM hF
 exact⟨S,ρ,ai.le_refl _,h1,hM,hF⟩
theorem ju {D:List Nat} {c:Code} {fr:List AV} {M:ag} {Q:dY} (h:bX P tt D c fr M Q):Cy P tt D c fr M Q:=⟨⟨fr,M,aH.refl D fr M,h⟩⟩
theorem aJ.loopM {D:List Nat} (hT:bn P tt=true) (hm:P.follows .mixedOrders=true) {c:Code} {fr:List AV} {M:ag} {Q:dY} {X:Type _} (I:X->Prop) (us:X->List (Nat×AV)) (Mf:X->ag) (μ:X->Nat) (x0:X) (hi:I x0)
  (h:tg (mr c []) fun ms=>th fr 0 ms fun fr0=>aH D fr M (re fr0 (us x0)) (Mf x0)/\
   ∀x,I x->yQ fr0 (us x) fun fr1=>Cy P tt D c fr1 (Mf x) (tf D I (fun x=>re fr0 (us x)) Mf μ x Q)):aJ P D (.loop c) fr M Q:=by
 rw[qk] at h
 obtain⟨fr0,h0,h⟩:=mt _ _ _ _ h
 refine aJ.loop I (fun x=>re fr0 (us x)) Mf μ x0 hi h0 fun x hx=>?_
 have:=h x hx
 rw[tj] at this
 obtain⟨fr2,M2,hs,hc⟩:=this.out
 exact aJ.sub hs (js hT hm _ _ _ _ hc)
end
end
end Go.Proofs.YtekmminpfhacpaaGreatDoor
