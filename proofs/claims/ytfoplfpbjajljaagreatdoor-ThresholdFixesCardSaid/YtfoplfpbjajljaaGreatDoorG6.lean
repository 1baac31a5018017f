import Derived.Test.YtfoplfpbjajljaaGreatDoorG4
set_option linter.unusedVariables false
set_option linter.unusedSimpArgs false
namespace Go.Proofs.YtfoplfpbjajljaaGreatDoor
def envG (f : Nat → Option LM) (ρ : Env) : Env := fun x => match f x with
 |some (.old ℓ) => ρ ℓ
 |some (.nil sz) => some ⟨0, 0, 0, sz, true⟩
 |none => none
def tellG (f : Nat → Option LM) (M : Mem) (x : Nat) (B' : Blk) : Prop :=
 match f x with
 |some (.old ℓ) => ∃ B, M ℓ = some B ∧ (B' = .dead ∨ ((∀ b, B'.live b → B.live b) ∧ ∀ S F ρ w b, BlkRep S F ρ w b B → BlkRep S F (envG f ρ) w b B'))
 |some (.nil _) => (∃ (t : TypeId) (α : Type) (d : α) (enc : α → List AV), B' = .row t d enc []) ∨ ∃ t g, B' = .hdr t g 0
 |none => False
structure Retell (f : Nat → Option LM) (M M' : Mem) : Prop where
 tell : ∀ x B', M' x = some B' → tellG f M x B'
 keys : ∀ x y, f x = some y → M' x ≠ none
 olds : ∀ a b ℓ, f a = some (.old ℓ) → f b = some (.old ℓ) → M' a ≠ some .dead → M' b ≠ some .dead → a = b
section
variable {S F : Store} {ρ : Env} {M M' : Mem} {w : World} {P : Program} {tt : TT} {f : Nat → Option LM}
theorem Retell.live (h : Retell f M M') {x : Nat} {B' : Blk} (hB : M' x = some B') {b : Lab} (hb : envG f ρ x = some b) (hl : B'.live b) : ∃ ℓ B, f x = some (.old ℓ) ∧ M ℓ = some B ∧ ρ ℓ = some b ∧ B.live b ∧ B' ≠ .dead := by
 have ht := h.tell x B' hB
 unfold tellG at ht
 unfold envG at hb
 cases hf : f x with
 |none => rw [hf] at hb; cases hb
 |some y =>
  rw [hf] at hb ht
  cases y with
  |old ℓ =>
   obtain ⟨B, h1, h2⟩ := ht
   rcases h2 with rfl | ⟨h2, h3⟩
   ·exact hl.elim
   ·exact ⟨ℓ, B, rfl, h1, hb, h2 b hl, fun e => by subst e; exact hl⟩
  |nil sz =>
   simp only [Option.some.injEq] at hb
   subst hb
   rcases ht with ⟨t, α, d, enc, rfl⟩ | ⟨t, g, rfl⟩
   ·simp [Blk.live] at hl
   ·simp [Blk.live] at hl
theorem RepM.relabelG (hM : RepM S F ρ M w) (h : Retell f M M') : RepM S F (envG f ρ) M' w := by
 refine ⟨hM.sw, hM.fw, hM.sf, fun x b hb => ?_, fun x B' hB' => ?_, fun x y B C b c h1 h2 h3 h4 h5 h6 hne => ?_, hM.gl⟩
 ·cases hf : f x with
  |none => unfold envG at hb; rw [hf] at hb; cases hb
  |some y => exact h.keys x y hf
 ·have ht := h.tell x B' hB'
  unfold tellG at ht
  cases hf : f x with
  |none => rw [hf] at ht; exact ht.elim
  |some y =>
   rw [hf] at ht
   cases y with
   |old ℓ =>
    obtain ⟨B, h1, h2⟩ := ht
    obtain ⟨b, hb, hr⟩ := hM.blk _ _ h1
    refine ⟨b, by unfold envG; rw [hf]; exact hb, ?_⟩
    rcases h2 with rfl | ⟨_, h3⟩
    ·trivial
    ·exact h3 S F ρ w b hr
   |nil sz =>
    refine ⟨⟨0, 0, 0, sz, true⟩, by unfold envG; rw [hf], ?_⟩
    rcases ht with ⟨t, α, d, enc, rfl⟩ | ⟨t, g, rfl⟩
    ·exact ⟨rfl, by simp, .inl ⟨rfl, rfl, rfl⟩⟩
    ·exact ⟨[], rfl, fun i hi => absurd hi (Nat.not_lt_zero _), rfl, by simp, .inl ⟨rfl, rfl, rfl⟩⟩
 ·obtain ⟨ℓ1, B1, f1, m1, r1, l1, d1⟩ := h.live h1 h3 h5
  obtain ⟨ℓ2, B2, f2, m2, r2, l2, d2⟩ := h.live h2 h4 h6
  refine hM.inj ℓ1 ℓ2 B1 B2 b c m1 m2 r1 r2 l1 l2 fun e => ?_
  subst e
  exact hne (h.olds x y ℓ1 f1 f2 (fun e => d1 (by rw [h1] at e; exact Option.some.inj e)) (fun e => d2 (by rw [h2] at e; exact Option.some.inj e)))
def TellL (f : Nat → Option LM) (us us' : List AV) : Prop := ∀ S ρ vs, RVs S ρ vs us → RVs S (envG f ρ) vs us'
def TellA (f : Nat → Option LM) (u u' : AV) : Prop := ∀ S ρ v, RV S ρ v u → RV S (envG f ρ) v u'
theorem envG_le {lm : LMap} (h : ∀ k y, lmFind lm k = some y → f k = some y) : Env.le (lmEnv lm ρ) (envG f ρ) := by
 intro x b hb
 unfold lmEnv at hb
 unfold envG
 cases hf : lmFind lm x with
 |none => rw [hf] at hb; cases hb
 |some y =>
  rw [hf] at hb
  rw [h x y hf]
  cases y with
  |old ℓ => exact hb
  |nil sz => exact hb
theorem TellL.by_ {lm : LMap} (n : Nat) {us us' : List AV} (h : ∀ k y, lmFind lm k = some y → f k = some y) (ha : avRs lm n us us') : TellL f us us' :=
 fun _ _ vs hv => ((avR_ok n).2 us us' vs ha hv).mono (Store.le_refl _) (envG_le h)
theorem TellA.by_ {lm : LMap} (n : Nat) {u u' : AV} (h : ∀ k y, lmFind lm k = some y → f k = some y) (ha : avR lm n u u') : TellA f u u' :=
 fun _ _ v hv => ((avR_ok n).1 u u' v ha hv).mono (Store.le_refl _) (envG_le h)
theorem TellA.row {ℓ ℓ' n sz : Nat} (h : f ℓ' = some (.old ℓ)) : TellA f (.row ℓ n sz) (.row ℓ' n sz) := fun S ρ v hv => by
 obtain ⟨b, hb, h1, h2, h3, rfl⟩ := hv.row_inv
 exact .row ℓ' n sz b (by unfold envG; rw [h]; exact hb) h1 h2 h3
theorem TellL.one {u u' : AV} (h : TellA f u u') : TellL f [u] [u'] := fun S ρ vs hv => by
 obtain ⟨v, vs', rfl, h1, h2⟩ := hv.cons_inv
 cases h2.nil_inv
 exact RVs.cons (h S ρ v h1) (RVs.nil _ _)
theorem Sub.gen {D : List Nat} {fr fr' : List AV} (f : Nat → Option LM) (h : Retell f M M') (hD : ∀ d ∈ D, f d = some (.old d)) (hf : TellL f fr fr') : Sub D fr M fr' M' := by
 rw [Sub_iff]
 intro S F ρ0 ρ a w h0 h1 hM hF
 refine ⟨S, envG f ρ, Store.le_refl _, fun ℓ b hb => ?_, hM.relabelG h, hf S ρ _ hF.1, hF.2⟩
 unfold envG
 rw [hD ℓ (h0 ℓ b hb)]
 exact h1 ℓ b hb
def famF (lm : LMap) (ψ : Nat → Option Nat) : Nat → Option LM := fun x => match lmFind lm x with
 |some y => some y
 |none => (ψ x).map .old
theorem famF_lm {lm : LMap} {ψ : Nat → Option Nat} : ∀ k y, lmFind lm k = some y → famF lm ψ k = some y := fun k y h => by unfold famF; rw [h]
theorem famF_ψ {lm : LMap} {ψ : Nat → Option Nat} {x o : Nat} (h : lmFind lm x = none) (h2 : ψ x = some o) : famF lm ψ x = some (.old o) := by unfold famF; rw [h, h2]; rfl
def memH (lm : LMap) (n : Nat) (M : Mem) : List (Nat × Blk) → Prop
 |[] => True
 |(ℓ', B') :: r => (match B' with
  |.hdr _ _ _ => True
  |B' => match lmFind lm ℓ' with
   |some (.old ℓ) => blkR lm n (M ℓ) B'
   |some (.nil _) => match B' with
    |.row _ _ _ l => l = []
    |_ => False
   |none => False) ∧ memH lm n M r
theorem memH_mem {lm : LMap} {n : Nat} : ∀ {L : List (Nat × Blk)}, memH lm n M L → ∀ ℓ' B', (ℓ', B') ∈ L → (∃ t g m, B' = .hdr t g m) ∨ (match lmFind lm ℓ' with
   |some (.old ℓ) => blkR lm n (M ℓ) B'
   |some (.nil _) => match B' with
    |.row _ _ _ l => l = []
    |_ => False
   |none => False)
 |[], _, _, _, h => by cases h
 |(k, C) :: r, h, ℓ', B', hm => by
  rcases List.mem_cons.1 hm with e | hm
  ·injection e with e1 e2
   subst e1; subst e2
   have h1 := h.1
   cases B' with
   |hdr t g m => exact .inl ⟨t, g, m, rfl⟩
   |_ => exact .inr h1
  ·exact memH_mem h.2 ℓ' B' hm
def hdrG (lm : LMap) (f : Nat → Option LM) (M : Mem) (ℓ' : Nat) (t : TypeId) (g' : Nat → List AV) (m : Nat) : Prop :=
 match lmFind lm ℓ' with
 |some (.old ℓ) => ∃ g, M ℓ = some (.hdr t g m) ∧ ∀ i, i < m → TellL f (g i) (g' i)
 |some (.nil _) => m = 0
 |none => False
theorem blkR_tell {lm : LMap} {n ℓ : Nat} {B' : Blk} (h : ∀ k y, lmFind lm k = some y → f k = some y) (hb : blkR lm n (M ℓ) B') : ∃ B, M ℓ = some B ∧ (B' = .dead ∨ ((∀ b, B'.live b → B.live b) ∧ ∀ S F ρ w b, BlkRep S F ρ w b B → BlkRep S F (envG f ρ) w b B')) := by
 unfold blkR at hb
 split at hb
 ·rename_i B hM; exact ⟨B, hM, .inl rfl⟩
 ·exact hb.elim
 ·rename_i t cs t' cs' hM
  refine ⟨_, hM, .inr ⟨fun _ _ => trivial, ?_⟩⟩
  split at hb
  ·rename_i ht
   have := Nat.eq_of_beq_eq_true ht
   subst this
   rintro S F ρ w b ⟨vs, h1, h2, h3⟩
   exact ⟨vs, h1, ((avR_ok n).2 cs cs' _ hb h2).mono (Store.le_refl _) (envG_le h), h3⟩
  ·exact hb.elim
 ·rename_i t α d enc l t' α' d' enc' l' hM
  rw [hb] at hM
  exact ⟨_, hM, .inr ⟨fun _ hl => hl, fun S F ρ w b hr => hr⟩⟩
 ·rename_i α d enc l α' d' enc' l' hM
  rw [hb] at hM
  exact ⟨_, hM, .inr ⟨fun _ hl => hl, fun S F ρ w b hr => hr⟩⟩
 ·rename_i s p s' p' hM
  obtain ⟨rfl, rfl⟩ := hb
  exact ⟨_, hM, .inr ⟨fun _ hl => hl, fun S F ρ w b hr => hr⟩⟩
 ·rename_i hM
  rw [hb] at hM
  exact ⟨_, hM, .inr ⟨fun _ hl => hl, fun S F ρ w b hr => hr⟩⟩
 ·rename_i hM
  rw [hb] at hM
  exact ⟨_, hM, .inr ⟨fun _ hl => hl, fun S F ρ w b hr => hr⟩⟩
 ·exact hb.elim
def rowB : Blk → Bool
 |.row _ _ _ _ => true
 |.dead => true
 |_ => false
structure FamOk (lm : LMap) (L : List (Nat × Blk)) (N : Mem) (ψ : Nat → Option Nat) (M : Mem) : Prop where
 blk : ∀ x B', N x = some B' → lmFind lm x = none ∧ Mem.ofL L x = none ∧ ∃ o B, ψ x = some o ∧ M o = some B ∧ (B' = .dead ∨ (B' = B ∧ rowB B = true))
 key : ∀ x o, ψ x = some o → N x ≠ none
 inj : ∀ x y o, ψ x = some o → ψ y = some o → N x ≠ some .dead → N y ≠ some .dead → x = y
 far : ∀ x o k, ψ x = some o → N x ≠ some .dead → lmFind lm k = some (.old o) → Mem.ofL L k = some .dead
theorem lm_olds : ∀ {lm : LMap} {L : List (Nat × Blk)}, oldsL L lm = true → ∀ {a b ℓ : Nat}, lmFind lm a = some (.old ℓ) → lmFind lm b = some (.old ℓ) → Mem.ofL L a ≠ some .dead → Mem.ofL L b ≠ some .dead → a = b := by
 intro lm L ho a b ℓ ha hb h1 h2
 unfold oldsL at ho
 have fd : ∀ (l : LMap) {c : Nat}, lmFind l c = some (.old ℓ) → Mem.ofL L c ≠ some .dead → lmFind (l.filter fun p => notDead L p.1) c = some (.old ℓ) := by
  intro l
  induction l with
  |nil => intro c h _; simp [lmFind] at h
  |cons p r ih =>
   intro c h hd
   obtain ⟨k, y⟩ := p
   simp only [lmFind] at h
   by_cases e : Nat.beq k c = true
   ·rw [e] at h
    have e1 := Nat.eq_of_beq_eq_true e
    subst e1
    have hnd : notDead L k = true := by
     unfold notDead
     split
     ·rename_i h0; exact absurd h0 hd
     ·rfl
    rw [List.filter_cons, if_pos hnd]
    simp only [lmFind, e]
    exact h
   ·rw [Bool.not_eq_true] at e
    rw [e] at h
    rw [List.filter_cons]
    split
    ·simp only [lmFind, e]; exact ih h hd
    ·exact ih h hd
 exact olds_inj ho (fd lm ha h1) (fd lm hb h2)
theorem retell_fam (lm : LMap) (L : List (Nat × Blk)) (N : Mem) (ψ : Nat → Option Nat) (n : Nat) (hs : (keysB lm L && oldsL L lm) = true) (hm : memH lm n M L)
  (hh : ∀ ℓ' t g' m, (ℓ', Blk.hdr t g' m) ∈ L → hdrG lm (famF lm ψ) M ℓ' t g' m) (hN : FamOk lm L N ψ M) : Retell (famF lm ψ) M (overM L N) := by
 rw [Bool.and_eq_true] at hs
 have hfree : ∀ x, lmFind lm x = none → ∀ B, Mem.ofL L x = some B → False := by
  intro x hx B hB
  have hmem := ofL_mem hB
  rcases memH_mem hm x B hmem with ⟨t, g, m, rfl⟩ | h
  ·have := hh x t g m hmem
   unfold hdrG at this
   rw [hx] at this
   exact this
  ·rw [hx] at h; exact h
 refine ⟨fun x B' hB' => ?_, fun x y hy => ?_, fun a b ℓ ha hb h1 h2 => ?_⟩
 ·unfold overM at hB'
  cases hL : Mem.ofL L x with
  |some B =>
   rw [hL] at hB'
   cases hB'
   have hmem := ofL_mem hL
   rcases memH_mem hm x B' hmem with ⟨t, g, m, rfl⟩ | h
   ·have h2 := hh x t g m hmem
    unfold hdrG at h2
    unfold tellG
    cases hf : lmFind lm x with
    |none => rw [hf] at h2; exact h2.elim
    |some y =>
     rw [famF_lm x y hf]
     rw [hf] at h2
     cases y with
     |old ℓ =>
      obtain ⟨g0, h3, h4⟩ := h2
      refine ⟨_, h3, .inr ⟨fun _ hl => hl, ?_⟩⟩
      rintro S F ρ w b ⟨l, hlm, hg, hr⟩
      exact ⟨l, hlm, fun i hi => h4 i hi S ρ _ (hg i hi), hr⟩
     |nil sz => subst h2; exact .inr ⟨t, g, rfl⟩
   ·unfold tellG
    cases hf : lmFind lm x with
    |none => rw [hf] at h; exact h.elim
    |some y =>
     rw [famF_lm x y hf]
     rw [hf] at h
     cases y with
     |old ℓ => exact blkR_tell famF_lm h
     |nil sz =>
      simp only at h
      split at h
      ·rename_i t α d enc l
       subst h
       exact .inl ⟨_, _, _, _, rfl⟩
      ·exact h.elim
  |none =>
   rw [hL] at hB'
   obtain ⟨h1, _, o, B, h3, h4, h5⟩ := hN.blk x B' hB'
   unfold tellG
   rw [famF_ψ h1 h3]
   refine ⟨B, h4, ?_⟩
   rcases h5 with rfl | ⟨rfl, h6⟩
   ·exact .inl rfl
   ·refine .inr ⟨fun _ hl => hl, fun S F ρ w b hr => ?_⟩
    cases B' with
    |row t d enc l => exact hr
    |dead => trivial
    |_ => cases h6
 ·unfold overM
  cases hL : Mem.ofL L x with
  |some B => simp
  |none =>
   cases hf : lmFind lm x with
   |some z =>
    have := List.all_eq_true.1 hs.1 _ (lmFind_mem hf)
    simp only at this
    rw [hL] at this; cases this
   |none =>
    unfold famF at hy
    rw [hf] at hy
    cases hψ : ψ x with
    |none => rw [hψ] at hy; cases hy
    |some o => exact hN.key x o hψ
 ·have src : ∀ c, famF lm ψ c = some (.old ℓ) → overM L N c ≠ some .dead → (lmFind lm c = some (.old ℓ) ∧ Mem.ofL L c ≠ some .dead) ∨ (lmFind lm c = none ∧ ψ c = some ℓ ∧ N c ≠ some .dead) := by
   intro c hc hd
   unfold famF at hc
   cases hf : lmFind lm c with
   |some z =>
    rw [hf] at hc
    cases hc
    refine .inl ⟨rfl, fun e => hd ?_⟩
    unfold overM; rw [e]
   |none =>
    rw [hf] at hc
    cases hψ : ψ c with
    |none => rw [hψ] at hc; cases hc
    |some o =>
     rw [hψ] at hc
     cases hc
     refine .inr ⟨rfl, rfl, fun e => hd ?_⟩
     unfold overM
     cases hL : Mem.ofL L c with
     |some B => exact (hfree c hf B hL).elim
     |none => exact e
  rcases src a ha h1 with ⟨a1, a2⟩ | ⟨a1, a2, a3⟩
  ·rcases src b hb h2 with ⟨b1, b2⟩ | ⟨b1, b2, b3⟩
   ·exact lm_olds hs.2 a1 b1 a2 b2
   ·exact absurd (hN.far b ℓ a b2 b3 a1) a2
  ·rcases src b hb h2 with ⟨b1, b2⟩ | ⟨b1, b2, b3⟩
   ·exact absurd (hN.far a ℓ b a2 a3 b1) b2
   ·exact hN.inj a b ℓ a2 b2 a3 b3
theorem Sub.fam {D : List Nat} {fr fr' : List AV} (lm : LMap) (L : List (Nat × Blk)) (N : Mem) (ψ : Nat → Option Nat) (n : Nat) (hs : (keysB lm L && oldsL L lm) = true) (hm : memH lm n M L)
  (hh : ∀ ℓ' t g' m, (ℓ', Blk.hdr t g' m) ∈ L → hdrG lm (famF lm ψ) M ℓ' t g' m) (hN : FamOk lm L N ψ M) (hD : ∀ d ∈ D, famF lm ψ d = some (.old d)) (hf : avRs lm n fr fr') : Sub D fr M fr' (overM L N) :=
 Sub.gen (famF lm ψ) (retell_fam lm L N ψ n hs hm hh hN) hD (TellL.by_ n famF_lm hf)
def overN (N2 M : Mem) : Mem := fun x => match N2 x with
 |some B => some B
 |none => M x
theorem Spec.callG {g : FuncId} {args args' : List AV} {K R : AV → Mem → Prop} (f1 : Nat → Option LM) (M0 : Mem) (hr1 : Retell f1 M M0) (ha : TellL f1 args args') (h : Spec P g args' M0 R)
  (hk : ∀ u M', R u M' → ∃ (f2 : Nat → Option LM) (N2 : Mem) (u' : AV), Retell f2 M' N2 ∧ (∀ x ℓ, f1 x = some (.old ℓ) → f2 ℓ = some (.old x)) ∧ (∀ ℓ y, f2 ℓ = some y → (∃ x, f1 x = some (.old ℓ)) ∨ M ℓ = none) ∧ TellA f2 u u' ∧ K u' (overN N2 M)) : Spec P g args M K := by
 rw [Spec_iff] at h ⊢
 refine ⟨h.1, fun S F ρ vs w hM hv => ?_⟩
 let own : Nat → Prop := fun ℓ => ∃ x, f1 x = some (.old ℓ)
 have hMr := hM.relabelG hr1
 have hlive : ∀ x B' b, M0 x = some B' → envG f1 ρ x = some b → B'.live b → keepF F ρ M w own b.blk = none := by
  intro x B' b hB' hb hl
  obtain ⟨b', hb', hr'⟩ := hMr.blk _ _ hB'
  rw [hb] at hb'; cases hb'
  have hFb := (hr'.off hl).2
  obtain ⟨ℓ, B, hf, hML, hρ, hBl, _⟩ := hr1.live hB' hb hl
  unfold keepF
  rw [if_neg]
  ·exact hFb
  ·rintro ⟨y, C, c, g1, g2, g3, g4, g5⟩
   refine hM.inj y ℓ C B c b g1 hML g2 hρ g3 hBl (fun e => ?_) g4
   subst e
   exact g5 ⟨x, hf⟩
 have hMc := hMr.reF (keepF_inW (own := own) hM) (keepF_sf hM) hlive
 refine (h.2 S (keepF F ρ M w own) (envG f1 ρ) vs w hMc (ha S ρ vs hv)).mono ?_
 rintro e w' ⟨v, u, M', S', ρ', rfl, hR, hle, hρ, hM', hr, hw⟩
 obtain ⟨f2, N2, u', hr2, hb3, hb4, hau, hK⟩ := hk u M' hR
 have hM2 := hM'.relabelG hr2
 let ρ2 : Env := fun ℓ => match envG f2 ρ' ℓ with
  |some b => some b
  |none => ρ ℓ
 have hle1 : Env.le (envG f2 ρ') ρ2 := fun ℓ b hb => by show (match envG f2 ρ' ℓ with | some b => some b | none => ρ ℓ) = _; rw [hb]
 have hle2 : Env.le ρ ρ2 := by
  intro ℓ b hb
  show (match envG f2 ρ' ℓ with | some b => some b | none => ρ ℓ) = _
  cases hf : f2 ℓ with
  |none =>
   have : envG f2 ρ' ℓ = none := by unfold envG; rw [hf]
   rw [this]; exact hb
  |some y =>
   rcases hb4 ℓ y hf with ⟨x, hx⟩ | hn
   ·have he : envG f1 ρ x = some b := by unfold envG; rw [hx]; exact hb
    have h2 : envG f2 ρ' ℓ = some b := by unfold envG; rw [hb3 x ℓ hx]; exact hρ _ _ he
    rw [h2]
   ·exact absurd hn (hM.dom ℓ b hb)
 have hF : ∀ k o, F k = some o → keepF F ρ M w own k = some o := keepF_le hM
 have framed : ∀ ℓ B b, N2 ℓ = none → M ℓ = some B → ρ ℓ = some b → B.live b → keepF F ρ M w own b.blk = w.heap[b.blk]? := by
  intro ℓ B b h0 h1 h2 h3
  exact keepF_live h1 h2 h3 fun ⟨x, hf⟩ => hr2.keys ℓ _ (hb3 x ℓ hf) h0
 refine ⟨v, u', overN N2 M, S', ρ2, rfl, hK, hle, hle2, ⟨hM'.sw, fun k o hk => hM'.fw k o (hF k o hk), fun k => ?_, fun ℓ b hb => ?_, fun ℓ B hB => ?_, fun x y B C b c h1 h2 h3 h4 h5 h6 hne => ?_, hM'.gl⟩, (hau S' ρ' v hr).mono (Store.le_refl _) hle1, hw⟩
 ·rcases hM'.sf k with h1 | h1
  ·exact .inl h1
  ·right
   cases hk : F k with
   |none => rfl
   |some o => rw [hF k o hk] at h1; cases h1
 ·unfold overN
  cases h2 : N2 ℓ with
  |some B => simp
  |none =>
   have hb : (match envG f2 ρ' ℓ with | some b => some b | none => ρ ℓ) = some b := hb
   cases h3 : envG f2 ρ' ℓ with
   |some b' => exact absurd h2 (hM2.dom _ _ h3)
   |none => rw [h3] at hb; exact hM.dom _ _ hb
 ·unfold overN at hB
  cases h2 : N2 ℓ with
  |some B' =>
   rw [h2] at hB
   cases hB
   obtain ⟨b, hb, hr3⟩ := hM2.blk _ _ h2
   refine ⟨b, hle1 _ _ hb, (hr3.keep (Store.le_refl _) hle1 fun _ => ⟨rfl, rfl⟩).reF fun hl => ?_⟩
   have := (hr3.off hl).2
   cases hk : F b.blk with
   |none => rfl
   |some o => rw [hF _ o hk] at this; cases this
  |none =>
   rw [h2] at hB
   obtain ⟨b, hb, hr3⟩ := hM.blk _ _ hB
   refine ⟨b, hle2 _ _ hb, hr3.keep hle hle2 fun hl => ?_⟩
   have hk := framed ℓ B b h2 hB hb hl
   obtain ⟨o, ho⟩ : ∃ o, w.heap[b.blk]? = some o := ⟨_, Array.getElem?_eq_getElem (hr3.lt hl)⟩
   refine ⟨by rw [hM'.fw _ o (hk.trans ho), ho], ?_⟩
   rw [(hr3.off hl).1]
   rcases hM'.sf b.blk with h1 | h1
   ·exact h1
   ·rw [hk, ho] at h1; cases h1
 ·have back : ∀ z D d, overN N2 M z = some D → ρ2 z = some d → D.live d → (N2 z = some D ∧ envG f2 ρ' z = some d) ∨ (N2 z = none ∧ M z = some D ∧ ρ z = some d) := by
   intro z D d hD hd hl
   unfold overN at hD
   cases hz : N2 z with
   |some D' =>
    rw [hz] at hD; cases hD
    obtain ⟨b', hb', _⟩ := hM2.blk _ _ hz
    have := hle1 _ _ hb'
    rw [hd] at this; cases this
    exact .inl ⟨rfl, hb'⟩
   |none =>
    rw [hz] at hD
    obtain ⟨b', hb', _⟩ := hM.blk _ _ hD
    have := hle2 _ _ hb'
    rw [hd] at this; cases this
    exact .inr ⟨rfl, hD, hb'⟩
  have mixed : ∀ z D d z' D' d', N2 z = some D → envG f2 ρ' z = some d → D.live d → N2 z' = none → M z' = some D' → ρ z' = some d' → D'.live d' → d.blk ≠ d'.blk := by
   intro z D d z' D' d' a1 a2 a3 a4 a5 a6 a7 e
   obtain ⟨b', hb', hr3⟩ := hM2.blk _ _ a1
   rw [a2] at hb'; cases hb'
   have h1 := (hr3.off a3).2
   have h2 := framed z' D' d' a4 a5 a6 a7
   obtain ⟨c', hc', hr4⟩ := hM.blk _ _ a5
   rw [a6] at hc'; cases hc'
   rw [e, h2, Array.getElem?_eq_getElem (hr4.lt a7)] at h1
   cases h1
  rcases back x B b h1 h3 h5 with ⟨p1, p2⟩ | ⟨p0, p1, p2⟩ <;> rcases back y C c h2 h4 h6 with ⟨q1, q2⟩ | ⟨q0, q1, q2⟩
  ·exact hM2.inj x y B C b c p1 q1 p2 q2 h5 h6 hne
  ·exact mixed x B b y C c p1 p2 h5 q0 q1 q2 h6
  ·exact fun e => mixed y C c x B b q1 q2 h6 p0 p1 p2 h5 e.symm
  ·exact hM.inj x y B C b c p1 q1 p2 q2 h5 h6 hne
end
end Go.Proofs.YtfoplfpbjajljaaGreatDoor
namespace Go.Proofs.YtfoplfpbjajljaaGreatDoor
def fnA : List (Nat × Nat) → Nat → Option Nat
 |[], _ => none
 |(y, k) :: r, x => match Nat.beq y x with
  |true => some k
  |false => fnA r x
def inA : List (Nat × Nat) → Nat → Bool
 |[], _ => false
 |(_, k') :: r, k => match Nat.beq k' k with
  |true => true
  |false => inA r k
def sgF (p m : Nat) (a : List (Nat × Nat)) (x : Nat) : Option Nat := match fnA a x with
 |some k => some k
 |none => match Nat.ble p x && Nat.blt (x - p) m with
  |true => (match inA a (x - p) with
   |true => none
   |false => some (x - p))
  |false => none
def lbF (p : Nat) : List (Nat × Nat) → Nat → Nat
 |[], k => p + k
 |(y, k') :: r, k => match Nat.beq k' k with
  |true => y
  |false => lbF p r k
def wfA (p m : Nat) : List (Nat × Nat) → Prop
 |[] => True
 |(y, k) :: r => y < p ∧ k < m ∧ (∀ q ∈ r, q.1 ≠ y ∧ q.2 ≠ k) ∧ wfA p m r
theorem beq_f {a b : Nat} (h : a ≠ b) : Nat.beq a b = false := by rw [Bool.eq_false_iff]; exact fun e => h (Nat.eq_of_beq_eq_true e)
theorem fnA_some : ∀ {a : List (Nat × Nat)} {x k : Nat}, fnA a x = some k → (x, k) ∈ a
 |(y, k') :: r, x, k, h => by
  rw [fnA] at h
  split at h
  ·rename_i hb
   have := Nat.eq_of_beq_eq_true hb
   subst this
   cases h
   exact List.mem_cons_self
  ·exact List.mem_cons_of_mem _ (fnA_some h)
theorem wfA_mem {p m : Nat} : ∀ {a : List (Nat × Nat)} {x k : Nat}, wfA p m a → (x, k) ∈ a → x < p ∧ k < m ∧ fnA a x = some k ∧ lbF p a k = x ∧ inA a k = true
 |(y, k') :: r, x, k, hw, h => by
  rcases List.mem_cons.1 h with e | h
  ·injection e with e1 e2
   subst e1; subst e2
   exact ⟨hw.1, hw.2.1, by rw [fnA, Nat.beq_refl], by rw [lbF, Nat.beq_refl], by rw [inA, Nat.beq_refl]⟩
  ·obtain ⟨h1, h2, h3, h4, h5⟩ := wfA_mem hw.2.2.2 h
   have hne := hw.2.2.1 _ h
   refine ⟨h1, h2, ?_, ?_, ?_⟩
   ·rw [fnA, beq_f (fun e => hne.1 e.symm)]; exact h3
   ·rw [lbF, beq_f (fun e => hne.2 e.symm)]; exact h4
   ·rw [inA, beq_f (fun e => hne.2 e.symm)]; exact h5
theorem lbF_out {p : Nat} : ∀ {a : List (Nat × Nat)} {k : Nat}, inA a k = false → lbF p a k = p + k
 |[], k, _ => rfl
 |(y, k') :: r, k, h => by
  rw [inA] at h
  split at h
  ·cases h
  ·rename_i hb
   rw [lbF, hb]
   exact lbF_out h
theorem inA_mem : ∀ {a : List (Nat × Nat)} {k : Nat}, inA a k = true → ∃ x, (x, k) ∈ a
 |(y, k') :: r, k, h => by
  rw [inA] at h
  split at h
  ·rename_i hb
   have := Nat.eq_of_beq_eq_true hb
   subst this
   exact ⟨y, List.mem_cons_self⟩
  ·obtain ⟨x, hx⟩ := inA_mem h
   exact ⟨x, List.mem_cons_of_mem _ hx⟩
theorem lbF_in {p m : Nat} {a : List (Nat × Nat)} {k : Nat} (h : wfA p m a) : lbF p a k = p + k ∨ ∃ q ∈ a, q.1 = lbF p a k ∧ q.2 = k := by
 cases hi : inA a k with
 |false => exact .inl (lbF_out hi)
 |true =>
  obtain ⟨x, hx⟩ := inA_mem hi
  exact .inr ⟨_, hx, (wfA_mem h hx).2.2.2.1.symm, rfl⟩
theorem sgF_some {p m : Nat} {a : List (Nat × Nat)} {x k : Nat} (hw : wfA p m a) (h : sgF p m a x = some k) : k < m ∧ lbF p a k = x := by
 unfold sgF at h
 split at h
 ·rename_i k' hk
  cases h
  have := wfA_mem hw (fnA_some hk)
  exact ⟨this.2.1, this.2.2.2.1⟩
 ·split at h
  ·rename_i hb
   rw [Bool.and_eq_true] at hb
   have h1 := Nat.le_of_ble_eq_true hb.1
   have h2 : x - p < m := by have := hb.2; simp [Nat.blt] at this; omega
   split at h
   ·cases h
   ·rename_i hi
    cases h
    exact ⟨h2, by rw [lbF_out hi]; omega⟩
  ·cases h
theorem sgF_lb {p m : Nat} {a : List (Nat × Nat)} {k : Nat} (hw : wfA p m a) (h : k < m) : sgF p m a (lbF p a k) = some k := by
 cases hi : inA a k with
 |true =>
  obtain ⟨x, hx⟩ := inA_mem hi
  have := wfA_mem hw hx
  rw [this.2.2.2.1]
  unfold sgF
  rw [this.2.2.1]
 |false =>
  rw [lbF_out hi]
  have hn : fnA a (p + k) = none := by
   cases hf : fnA a (p + k) with
   |none => rfl
   |some k' =>
    have := (wfA_mem hw (fnA_some hf)).1
    omega
  unfold sgF
  rw [hn]
  have h1 : Nat.ble p (p + k) = true := Nat.ble_eq_true_of_le (by omega)
  have h2 : Nat.blt (p + k - p) m = true := by simp [Nat.blt]; omega
  rw [h1, h2, Nat.add_sub_cancel_left, hi]
  rfl
theorem lbF_inj {p m : Nat} {a : List (Nat × Nat)} (hw : wfA p m a) {k k' : Nat} (h : k < m) (h' : k' < m) (e : lbF p a k = lbF p a k') : k = k' := by
 have h1 := sgF_lb hw h
 rw [e, sgF_lb hw h'] at h1
 exact (Option.some.inj h1).symm
theorem sgF_key {p m : Nat} {a : List (Nat × Nat)} {x k : Nat} (h : sgF p m a x = some k) : p ≤ x ∨ ∃ q ∈ a, q.1 = x := by
 unfold sgF at h
 split at h
 ·rename_i k' hk
  exact .inr ⟨_, fnA_some hk, rfl⟩
 ·split at h
  ·rename_i hb
   rw [Bool.and_eq_true] at hb
   exact .inl (Nat.le_of_ble_eq_true hb.1)
  ·cases h
def rowsN (ti : TypeId) (σ : Nat → Option Nat) (c : Nat → List Int) : Mem := fun x => match σ x with
 |some k => some (.row ti 0 encI (c k))
 |none => none
section
variable {M : Mem} {P : Program} {tt : TT}
structure codeF (P : Program) (tt : TT) (D : List Nat) (c : Code) (fr : List AV) (M : Mem) (Q : APost) : Prop where
 out : ∃ fr' M', Sub D fr M fr' M' ∧ codeK P tt D c fr' M' Q
theorem codeFI {D : List Nat} {c : Code} {fr fr' : List AV} {M M' : Mem} {Q : APost} (hs : Sub D fr M fr' M') (h : codeK P tt D c fr' M' Q) : codeF P tt D c fr M Q := ⟨⟨fr', M', hs, h⟩⟩
theorem Sub.refl (D : List Nat) (fr : List AV) (M : Mem) : Sub D fr M fr M := by
 rw [Sub_iff]
 intro S F ρ0 ρ a w h0 h1 hM hF
 exact ⟨S, ρ, Store.le_refl _, h1, hM, hF⟩
theorem codeFR {D : List Nat} {c : Code} {fr : List AV} {M : Mem} {Q : APost} (h : codeK P tt D c fr M Q) : codeF P tt D c fr M Q := ⟨⟨fr, M, Sub.refl D fr M, h⟩⟩
theorem WPc.loopM {D : List Nat} (hT : TOkB P tt = true) (hm : P.follows .mixedOrders = true) {c : Code} {fr : List AV} {M : Mem} {Q : APost} {X : Type _} (I : X → Prop) (us : X → List (Nat × AV)) (Mf : X → Mem) (μ : X → Nat) (x0 : X) (hi : I x0)
  (h : forceN (modsC c []) fun ms => maskK fr 0 ms fun fr0 => Sub D fr M (setsF fr0 (us x0)) (Mf x0) ∧
   ∀ x, I x → setsK fr0 (us x) fun fr1 => codeF P tt D c fr1 (Mf x) (loopPost D I (fun x => setsF fr0 (us x)) Mf μ x Q)) : WPc P D (.loop c) fr M Q := by
 rw [forceN_eq] at h
 obtain ⟨fr0, h0, h⟩ := maskK_ex _ _ _ _ h
 refine WPc.loop I (fun x => setsF fr0 (us x)) Mf μ x0 hi h0 fun x hx => ?_
 have := h x hx
 rw [setsK_eq] at this
 obtain ⟨fr2, M2, hs, hc⟩ := this.out
 exact WPc.sub hs (codeK_ok hT hm _ _ _ _ hc)
end
end Go.Proofs.YtfoplfpbjajljaaGreatDoor
