import Derived.Test.YtnjggjhkfncnlaaGreatDoorG3
import Derived.Scope
set_option linter.unusedVariables false
set_option linter.unusedSimpArgs false
namespace Go.Proofs.YtnjggjhkfncnlaaGreatDoor
inductive AEx
 | normal
 | exit (id : Nat)
 | ret
def absE : Exit → Option AEx
 | .normal => some .normal
 | .exit id => some (.exit id)
 | .ret => some .ret
 | _ => none
abbrev APost := AEx → List AV → Mem → Prop
def EnvIn (ρ : Env) (D : List Nat) : Prop := ∀ ℓ b, ρ ℓ = some b → ℓ ∈ D
structure WPc (P : Program) (D : List Nat) (c : Code) (fr : List AV) (M : Mem) (Q : APost) : Prop where
 out : ∀ S F ρ0 ρ a w, EnvIn ρ0 D → Env.le ρ0 ρ → RepM S F ρ M w → RepF S ρ a fr → c.wp P (fun e a' w' => ∃ x, absE e = some x ∧ After S F ρ0 w (Q x) a' w') a w
theorem WPc_iff {P : Program} {D : List Nat} {c : Code} {fr : List AV} {M : Mem} {Q : APost} : WPc P D c fr M Q ↔ (∀ S F ρ0 ρ a w, EnvIn ρ0 D → Env.le ρ0 ρ → RepM S F ρ M w → RepF S ρ a fr → c.wp P (fun e a' w' => ∃ x, absE e = some x ∧ After S F ρ0 w (Q x) a' w') a w) := ⟨fun h => h.out, fun h => ⟨h⟩⟩
structure drawK (P : Program) (tt : TT) (ops : List Oper) (fr : List AV) (M : Mem) (K : List AV → Mem → Prop) : Prop where
 out : (∃ r, drawB tt r ops = true ∧ opsK P tt (some r) ops ops fr M K) ∨ (∃ r ds, drawB2 tt r ds ops = true ∧ opsK2 P tt r ds ops ops fr M K) ∨ ∃ d, ordsK P tt d ops K ops.length [] fr M
theorem drawK_iff {P : Program} {tt : TT} {ops : List Oper} {fr : List AV} {M : Mem} {K : List AV → Mem → Prop} : drawK P tt ops fr M K ↔ ((∃ r, drawB tt r ops = true ∧ opsK P tt (some r) ops ops fr M K) ∨ (∃ r ds, drawB2 tt r ds ops = true ∧ opsK2 P tt r ds ops ops fr M K) ∨ ∃ d, ordsK P tt d ops K ops.length [] fr M) := ⟨fun h => h.out, fun h => ⟨h⟩⟩
theorem drawI {P : Program} {tt : TT} {ops : List Oper} {fr : List AV} {M : Mem} {K : List AV → Mem → Prop} (hB : drawB tt .any ops = true) (h : opsK P tt (some .any) ops ops fr M K) : drawK P tt ops fr M K := by
 rw [drawK_iff]; exact .inl ⟨_, hB, h⟩
theorem drawR {P : Program} {tt : TT} {ops : List Oper} {fr : List AV} {M : Mem} {K : List AV → Mem → Prop} (hB : drawB tt .rows ops = true) (h : opsK P tt (some .rows) ops ops fr M K) : drawK P tt ops fr M K := by
 rw [drawK_iff]; exact .inl ⟨_, hB, h⟩
theorem drawF {P : Program} {tt : TT} {ops : List Oper} {fr : List AV} {M : Mem} {K : List AV → Mem → Prop} (hB : drawB tt .fresh ops = true) (h : opsK P tt (some .fresh) ops ops fr M K) : drawK P tt ops fr M K := by
 rw [drawK_iff]; exact .inl ⟨_, hB, h⟩
theorem drawG {P : Program} {tt : TT} {ops : List Oper} {fr : List AV} {M : Mem} {K : List AV → Mem → Prop} (hB : drawB tt .flat ops = true) (h : opsK P tt (some .flat) ops ops fr M K) : drawK P tt ops fr M K := by
 rw [drawK_iff]; exact .inl ⟨_, hB, h⟩
theorem drawO {P : Program} {tt : TT} {ops : List Oper} {fr : List AV} {M : Mem} {K : List AV → Mem → Prop} (hB : drawB tt .own ops = true) (h : opsK P tt (some .own) ops ops fr M K) : drawK P tt ops fr M K := by
 rw [drawK_iff]; exact .inl ⟨_, hB, h⟩
theorem drawX {P : Program} {tt : TT} {ops : List Oper} {fr : List AV} {M : Mem} {K : List AV → Mem → Prop} (as : List (Nat × Nat)) (hB : drawB tt (.boxes as) ops = true) (h : opsK P tt (some (.boxes as)) ops ops fr M K) : drawK P tt ops fr M K := by
 rw [drawK_iff]; exact .inl ⟨_, hB, h⟩
theorem drawN {P : Program} {tt : TT} {ops : List Oper} {fr : List AV} {M : Mem} {K : List AV → Mem → Prop} (r : DMode) (ds : List Nat) (hB : drawB2 tt r ds ops = true) (h : opsK2 P tt r ds ops ops fr M K) : drawK P tt ops fr M K := by
 rw [drawK_iff]; exact .inr (.inl ⟨_, _, hB, h⟩)
theorem drawE {P : Program} {tt : TT} {ops : List Oper} {fr : List AV} {M : Mem} {K : List AV → Mem → Prop} (h : ordsK P tt (some .own) ops K ops.length [] fr M) : drawK P tt ops fr M K := by
 rw [drawK_iff]; exact .inr (.inr ⟨_, h⟩)
theorem drawZ {P : Program} {tt : TT} {ops : List Oper} {fr : List AV} {M : Mem} {K : List AV → Mem → Prop} (h : ordsK P tt none ops K ops.length [] fr M) : drawK P tt ops fr M K := by
 rw [drawK_iff]; exact .inr (.inr ⟨_, h⟩)
theorem drawP {P : Program} {tt : TT} {ops : List Oper} {fr : List AV} {M : Mem} {K : List AV → Mem → Prop} (hB : drawB tt .pers ops = true) (h : opsK P tt (some .pers) ops ops fr M K) : drawK P tt ops fr M K := by
 rw [drawK_iff]; exact .inl ⟨_, hB, h⟩
def codeK (P : Program) (tt : TT) (D : List Nat) : Code → List AV → Mem → APost → Prop
 | .skip, fr, M, Q => Q .normal fr M
 | .region _ ops draw, fr, M, Q => match draw with
  | false => opsK P tt none ops.toList ops.toList fr M (Q .normal)
  | true => drawK P tt ops.toList fr M (Q .normal)
 | .seq a b, fr, M, Q => codeK P tt D a fr M fun e fr' M' => match e with
  | .normal => codeK P tt D b fr' M' Q
  | .exit i => Q (.exit i) fr' M'
  | .ret => Q .ret fr' M'
 | .cond c x y, fr, M, Q => avK fr c fun u => match u with
  | .bool true => codeK P tt D x fr M Q
  | .bool false => codeK P tt D y fr M Q
  | _ => False
 | .block id c, fr, M, Q => codeK P tt D c fr M fun e fr' M' => match e with
  | .normal => Q .normal fr' M'
  | .exit i => match Nat.beq i id with
   | true => Q .normal fr' M'
   | false => Q (.exit i) fr' M'
  | .ret => Q .ret fr' M'
 | .exit id, fr, M, Q => Q (.exit id) fr M
 | .ret, fr, M, Q => Q .ret fr M
 | .loop c, fr, M, Q => WPc P D (.loop c) fr M Q
 | .rangeFunc f ps as c, fr, M, Q => WPc P D (.rangeFunc f ps as c) fr M Q
 | .scope c, fr, M, Q => codeK P tt D c fr M Q
 | .label _, fr, M, Q => Q .normal fr M
 | .goto l, fr, M, Q => WPc P D (.goto l) fr M Q
 | .refuse s, fr, M, Q => WPc P D (.refuse s) fr M Q
section
variable {P : Program} {tt : TT} {D : List Nat}
theorem WPc.mono {c : Code} {fr : List AV} {M : Mem} {Q Q' : APost} (h : WPc P D c fr M Q) (hq : ∀ e f M, Q e f M → Q' e f M) : WPc P D c fr M Q' := by
 simp only [WPc_iff] at *
 intro S F ρ0 ρ a w h0 h1 hM hF
 exact wp_mono (h S F ρ0 ρ a w h0 h1 hM hF) fun e a' w' ⟨x, hx, ha⟩ => ⟨x, hx, ha.mono fun f M => hq x f M⟩
theorem codeK_ok (hT : TOkB P tt = true) (hm : P.follows .mixedOrders = true) : ∀ (c : Code) (fr : List AV) (M : Mem) (Q : APost), codeK P tt D c fr M Q → WPc P D c fr M Q := by
 intro c
 induction c with
 | skip =>
  intro fr M Q h
  rw [WPc_iff]
  intro S F ρ0 ρ a w h0 h1 hM hF
  exact wp_skip ⟨.normal, rfl, fr, M, S, ρ, h, Store.le_refl _, h1, hM, hF, Wle.refl _⟩
 | region id ops draw =>
  intro fr M Q h
  rw [WPc_iff]
  intro S F ρ0 ρ a w h0 h1 hM hF
  simp only [codeK] at h
  have hQ : ∀ a' w', After S F ρ w (Q .normal) a' w' → ∃ x, absE .normal = some x ∧ After S F ρ0 w (Q x) a' w' := fun a' w' ⟨f, M', S', ρ', k, k1, k2, k3⟩ => ⟨.normal, rfl, f, M', S', ρ', k, k1, Env.le_trans h1 k2, k3⟩
  have e : ops = ops.toList.toArray := by simp
  cases draw with
  | false =>
   rw [e]
   exact wp_region_lit (opsK_ok hT ops.toList S ρ w a fr M h hM hF hQ)
  | true =>
   simp only at h
   rw [drawK_iff] at h
   rw [e]
   rcases h with ⟨r, h1, h2⟩ | ⟨r, ds, h1, h2⟩ | ⟨d, h2⟩
   ·exact draw_region hT hm h1 h2 hM hF hQ
   ·exact draw_region2 hT hm h1 h2 hM hF hQ
   ·exact draw_regionE hT hm h2 hM hF hQ
 | seq x y ihx ihy =>
  intro fr M Q h
  have hx := ihx fr M _ h
  simp only [WPc_iff] at *
  intro S F ρ0 ρ a w h0 h1 hM hF
  refine wp_seq (wp_mono (hx S F ρ0 ρ a w h0 h1 hM hF) ?_)
  rintro e a' w' ⟨ex, he, f, M', S', ρ', k, k1, k2, k3, k4, k5⟩
  cases e with
  | normal =>
   cases he
   refine wp_mono (ihy f M' Q k S' F ρ0 ρ' a' w' h0 k2 k3 k4) ?_
   rintro e2 a2 w2 ⟨ex2, he2, ha⟩
   exact ⟨ex2, he2, ha.trans k1 (Env.le_refl _) k5⟩
  | exit i => cases he; exact ⟨_, rfl, f, M', S', ρ', k, k1, k2, k3, k4, k5⟩
  | ret => cases he; exact ⟨_, rfl, f, M', S', ρ', k, k1, k2, k3, k4, k5⟩
  | goto l => cases he
  | panic l => cases he
  | outgrown => cases he
 | cond c x y ihx ihy =>
  intro fr M Q h
  simp only [codeK, avK_eq] at h
  rw [WPc_iff]
  intro S F ρ0 ρ a w h0 h1 hM hF
  have hc := hF.eval c
  split at h
  ·rename_i hb
   rw [hb] at hc
   have := ihx fr M Q h
   rw [WPc_iff] at this
   exact wp_cond_true hc.bool_inv (this S F ρ0 ρ a w h0 h1 hM hF)
  ·rename_i hb
   rw [hb] at hc
   have := ihy fr M Q h
   rw [WPc_iff] at this
   exact wp_cond_false hc.bool_inv (this S F ρ0 ρ a w h0 h1 hM hF)
  ·exact h.elim
 | block id c ih =>
  intro fr M Q h
  have hx := ih fr M _ h
  simp only [WPc_iff] at *
  intro S F ρ0 ρ a w h0 h1 hM hF
  refine wp_block (wp_mono (hx S F ρ0 ρ a w h0 h1 hM hF) ?_)
  rintro e a' w' ⟨ex, he, f, M', S', ρ', k, k1, k2, k3, k4, k5⟩
  cases e with
  | normal => cases he; exact ⟨_, rfl, f, M', S', ρ', k, k1, k2, k3, k4, k5⟩
  | exit i =>
   cases he
   simp only [Exit.inBlock]
   simp only at k
   split at k
   ·rename_i hb
    rw [if_pos (Nat.eq_of_beq_eq_true hb)]
    exact ⟨_, rfl, f, M', S', ρ', k, k1, k2, k3, k4, k5⟩
   ·rename_i hb
    rw [if_neg (fun e => by subst e; simp at hb)]
    exact ⟨_, rfl, f, M', S', ρ', k, k1, k2, k3, k4, k5⟩
  | ret => cases he; exact ⟨_, rfl, f, M', S', ρ', k, k1, k2, k3, k4, k5⟩
  | goto l => cases he
  | panic l => cases he
  | outgrown => cases he
 | exit id =>
  intro fr M Q h
  rw [WPc_iff]
  intro S F ρ0 ρ a w h0 h1 hM hF
  exact wp_exit ⟨_, rfl, fr, M, S, ρ, h, Store.le_refl _, h1, hM, hF, Wle.refl _⟩
 | ret =>
  intro fr M Q h
  rw [WPc_iff]
  intro S F ρ0 ρ a w h0 h1 hM hF
  exact wp_ret ⟨_, rfl, fr, M, S, ρ, h, Store.le_refl _, h1, hM, hF, Wle.refl _⟩
 | loop c _ => intro fr M Q h; exact h
 | rangeFunc f ps as c _ _ => intro fr M Q h; exact h
 | scope c ih =>
  intro fr M Q h
  have h2 := ih fr M Q h
  rw [WPc_iff] at h2 ⊢
  intro S F ρ0 ρ a w h0 h1 hM hF
  refine wp_scope_straight (wp_mono (h2 S F ρ0 ρ a w h0 h1 hM hF) ?_)
  rintro e a' w' ⟨x, hx, ha⟩
  cases e with
  | goto l => cases hx
  | normal => exact ⟨x, hx, ha⟩
  | exit i => exact ⟨x, hx, ha⟩
  | ret => exact ⟨x, hx, ha⟩
  | panic l => cases hx
  | outgrown => cases hx
 | label l =>
  intro fr M Q h
  rw [WPc_iff]
  intro S F ρ0 ρ a w h0 h1 hM hF
  exact wp_label ⟨.normal, rfl, fr, M, S, ρ, h, Store.le_refl _, h1, hM, hF, Wle.refl _⟩
 | goto l => intro fr M Q h; exact h
 | refuse s => intro fr M Q h; exact h
structure Sub (D : List Nat) (fr : List AV) (M : Mem) (fr' : List AV) (M' : Mem) : Prop where
 out : ∀ S F ρ0 ρ a w, EnvIn ρ0 D → Env.le ρ0 ρ → RepM S F ρ M w → RepF S ρ a fr → ∃ S' ρ', S.le S' ∧ Env.le ρ0 ρ' ∧ RepM S' F ρ' M' w ∧ RepF S' ρ' a fr'
theorem Sub_iff {D : List Nat} {fr : List AV} {M : Mem} {fr' : List AV} {M' : Mem} : Sub D fr M fr' M' ↔ (∀ S F ρ0 ρ a w, EnvIn ρ0 D → Env.le ρ0 ρ → RepM S F ρ M w → RepF S ρ a fr → ∃ S' ρ', S.le S' ∧ Env.le ρ0 ρ' ∧ RepM S' F ρ' M' w ∧ RepF S' ρ' a fr') := ⟨fun h => h.out, fun h => ⟨h⟩⟩
theorem WPc.sub {c : Code} {fr fr' : List AV} {M M' : Mem} {Q : APost} (hs : Sub D fr M fr' M') (h : WPc P D c fr' M' Q) : WPc P D c fr M Q := by
 simp only [WPc_iff, Sub_iff] at *
 intro S F ρ0 ρ a w h0 h1 hM hF
 obtain ⟨S', ρ', k1, k2, k3, k4⟩ := hs S F ρ0 ρ a w h0 h1 hM hF
 refine wp_mono (h S' F ρ0 ρ' a w h0 k2 k3 k4) ?_
 rintro e a' w' ⟨x, hx, ha⟩
 exact ⟨x, hx, ha.trans k1 (Env.le_refl _) (Wle.refl _)⟩
def loopPost {X : Type _} (D : List Nat) (I : X → Prop) (frI : X → List AV) (MI : X → Mem) (μ : X → Nat) (x : X) (Q : APost) : APost := fun e fr M => match e with
 | .normal => ∃ x', Sub D fr M (frI x') (MI x') ∧ I x' ∧ μ x' < μ x
 | .exit i => Q (.exit i) fr M
 | .ret => Q .ret fr M
theorem WPc.loop {c : Code} {fr : List AV} {M : Mem} {Q : APost} {X : Type _} (I : X → Prop) (frI : X → List AV) (MI : X → Mem) (μ : X → Nat) (x0 : X) (hi : I x0) (h0 : Sub D fr M (frI x0) (MI x0))
  (h : ∀ x, I x → WPc P D c (frI x) (MI x) (loopPost D I frI MI μ x Q)) : WPc P D (.loop c) fr M Q := by
 refine WPc.sub h0 ?_
 rw [WPc_iff]
 intro S F ρ0 ρ a w hin h1 hM hF
 have key : ∀ (n : Nat) (x : X) (S1 : Store) (ρ1 : Env) (a1 : Act) (w1 : World), μ x = n → I x → S.le S1 → Wle w w1 → Env.le ρ0 ρ1 → RepM S1 F ρ1 (MI x) w1 → RepF S1 ρ1 a1 (frI x) →
   ∀ b k cs, ∃ e a' w', (∃ x, absE e = some x ∧ After S F ρ0 w (Q x) a' w') ∧ Arrives P (lone (b.at a1 (.code c :: .inLoop c :: k)) cs w1) b k cs e a' w' := by
  intro n
  induction n using Nat.strongRecOn with
  | _ n ih =>
   intro x S1 ρ1 a1 w1 hn hIx hS hw hρ hM1 hF1 b k cs
   have hx := h x hIx
   rw [WPc_iff] at hx
   obtain ⟨e, a2, w2, ⟨ex, he, f, M', S2, ρ2, kk, k1, k2, k3, k4, k5⟩, harr⟩ := hx S1 F ρ0 ρ1 a1 w1 hin hρ hM1 hF1 b (.inLoop c :: k) cs
   cases e with
   | normal =>
    cases he
    obtain ⟨x', hsub, hIx', hlt⟩ := kk
    rw [Sub_iff] at hsub
    obtain ⟨S3, ρ3, j1, j2, j3, j4⟩ := hsub S2 F ρ0 ρ2 a2 w2 hin k2 k3 k4
    obtain ⟨e3, a3, w3, hq, harr3⟩ := ih (μ x') (hn ▸ hlt) x' S3 ρ3 a2 w2 rfl hIx' (Store.le_trans hS (Store.le_trans k1 j1)) (hw.trans k5) j2 j3 j4 b k cs
    exact ⟨e3, a3, w3, hq, .of_steps (Steps.trans harr (.one step_inLoop)) harr3⟩
   | exit i => cases he; exact ⟨_, a2, w2, ⟨_, rfl, f, M', S2, ρ2, kk, Store.le_trans hS k1, k2, k3, k4, hw.trans k5⟩, .pass (x := .inLoop c) rfl (fun _ _ => .inl (by simp)) harr⟩
   | ret => cases he; exact ⟨_, a2, w2, ⟨_, rfl, f, M', S2, ρ2, kk, Store.le_trans hS k1, k2, k3, k4, hw.trans k5⟩, .pass (x := .inLoop c) rfl (fun _ _ => .inl (by simp)) harr⟩
   | goto l => cases he
   | panic l => cases he
   | outgrown => cases he
 intro b k cs
 obtain ⟨e, a', w', hq, harr⟩ := key _ x0 S ρ a w rfl hi (Store.le_refl _) (Wle.refl _) h1 hM hF b k cs
 exact ⟨e, a', w', hq, .of_steps (.one step_loop) harr⟩
def loopPost2 {X Y : Type _} (D : List Nat) (I : X → Y → Prop) (frI : X → Y → List AV) (MI : X → Y → Mem) (μ : X → Y → Nat) (x : X) (y : Y) (Q : APost) : APost := fun e fr M => match e with
 | .normal => ∃ x' y', Sub D fr M (frI x' y') (MI x' y') ∧ I x' y' ∧ μ x' y' < μ x y
 | .exit i => Q (.exit i) fr M
 | .ret => Q .ret fr M
theorem WPc.loop2 {c : Code} {fr : List AV} {M : Mem} {Q : APost} {X Y : Type _} (I : X → Y → Prop) (frI : X → Y → List AV) (MI : X → Y → Mem) (μ : X → Y → Nat) (x0 : X) (y0 : Y) (hi : I x0 y0) (h0 : Sub D fr M (frI x0 y0) (MI x0 y0))
  (h : ∀ x y, I x y → WPc P D c (frI x y) (MI x y) (loopPost2 D I frI MI μ x y Q)) : WPc P D (.loop c) fr M Q :=
 WPc.loop (X := X × Y) (fun z => I z.1 z.2) (fun z => frI z.1 z.2) (fun z => MI z.1 z.2) (fun z => μ z.1 z.2) (x0, y0) hi h0 fun z hz => (h z.1 z.2 hz).mono fun e f M hh => by
  cases e with
  | normal => obtain ⟨x', y', a, b, c⟩ := hh; exact ⟨(x', y'), a, b, c⟩
  | exit i => exact hh
  | ret => exact hh
def loopPost3 {X Y Z : Type _} (D : List Nat) (I : X → Y → Z → Prop) (frI : X → Y → Z → List AV) (MI : X → Y → Z → Mem) (μ : X → Y → Z → Nat) (x : X) (y : Y) (z : Z) (Q : APost) : APost := fun e fr M => match e with
 | .normal => ∃ x' y' z', Sub D fr M (frI x' y' z') (MI x' y' z') ∧ I x' y' z' ∧ μ x' y' z' < μ x y z
 | .exit i => Q (.exit i) fr M
 | .ret => Q .ret fr M
theorem WPc.loop3 {c : Code} {fr : List AV} {M : Mem} {Q : APost} {X Y Z : Type _} (I : X → Y → Z → Prop) (frI : X → Y → Z → List AV) (MI : X → Y → Z → Mem) (μ : X → Y → Z → Nat) (x0 : X) (y0 : Y) (z0 : Z) (hi : I x0 y0 z0) (h0 : Sub D fr M (frI x0 y0 z0) (MI x0 y0 z0))
  (h : ∀ x y z, I x y z → WPc P D c (frI x y z) (MI x y z) (loopPost3 D I frI MI μ x y z Q)) : WPc P D (.loop c) fr M Q :=
 WPc.loop (X := X × Y × Z) (fun z => I z.1 z.2.1 z.2.2) (fun z => frI z.1 z.2.1 z.2.2) (fun z => MI z.1 z.2.1 z.2.2) (fun z => μ z.1 z.2.1 z.2.2) (x0, y0, z0) hi h0 fun z hz => (h z.1 z.2.1 z.2.2 hz).mono fun e f M hh => by
  cases e with
  | normal => obtain ⟨x', y', z', a, b, c⟩ := hh; exact ⟨(x', y', z'), a, b, c⟩
  | exit i => exact hh
  | ret => exact hh
end
end Go.Proofs.YtnjggjhkfncnlaaGreatDoor
namespace Go.Proofs.YtnjggjhkfncnlaaGreatDoor
section
theorem Sub.by_ {D : List Nat} {fr fr' : List AV} {M : Mem} (lm : LMap) (L : List (Nat × Blk)) (n : Nat) (hs : (keysB lm L && oldsL L lm && keepB lm D) = true) (hm : memR lm n M L) (hf : avRs lm n fr fr') : Sub D fr M fr' (Mem.ofL L) := by
 rw [Sub_iff]
 intro S F ρ0 ρ a w h0 h1 hM hF
 rw [Bool.and_eq_true, Bool.and_eq_true] at hs
 refine ⟨S, lmEnv lm ρ, Store.le_refl _, fun ℓ b hb => ?_, hM.relabel hm hs.1.1 hs.1.2, (avR_ok n).2 fr fr' _ hf hF.1, hF.2⟩
 have := List.all_eq_true.1 hs.2 ℓ (h0 ℓ b hb)
 unfold lmEnv
 cases hf : lmFind lm ℓ with
 | none => rw [hf] at this; cases this
 | some x =>
  rw [hf] at this
  cases x with
  | old m =>
   simp only at this ⊢
   rw [Nat.eq_of_beq_eq_true this]
   exact h1 ℓ b hb
  | nil _ => cases this
end
def pad0 : Nat → (List AV → Prop) → Prop
 | 0, k => k []
 | n + 1, k => pad0 n fun l => k (.tup [] :: l)
theorem pad0_eq : ∀ (n : Nat) (k : List AV → Prop), pad0 n k = k (List.replicate n (.tup []))
 | 0, k => rfl
 | n + 1, k => by rw [pad0, pad0_eq n]; rfl
def padK : List AV → Nat → (List AV → Prop) → Prop
 | [], n, k => pad0 n k
 | u :: us, n, k => padK us n fun l => k (u :: l)
theorem padK_eq : ∀ (us : List AV) (n : Nat) (k : List AV → Prop), padK us n k = k (us ++ List.replicate n (.tup []))
 | [], n, k => by rw [padK, pad0_eq]; rfl
 | u :: us, n, k => by rw [padK, padK_eq us n]; rfl
def resSem (tmps : Array Value) : ResultVar → Sem Value
 | .tmp t => pure (tmps.getD t undef)
 | .cell x t => do loadVar t (← asAddr (tmps.getD x undef))
def resK (tt : TT) (fr : List AV) (M : Mem) : List ResultVar → (List AV → Prop) → Prop
 | [], k => k []
 | r :: rs, k => match r with
  | .tmp t => getK fr t fun u => resK tt fr M rs fun us => k (u :: us)
  | .cell a t => getK fr a fun p => rsK (evLoad tt t M p) fun u => resK tt fr M rs fun us => k (u :: us)
def tupOf : List AV → AV
 | [u] => u
 | us => .tup us
def leakR : List AV → Mem → (List AV → Mem → Prop) → Prop
 | [], M, K => K [] M
 | u :: us, M, K => match u with
  | .agg cs => leakK cs M fun cs' M' => leakR us M' fun us' M'' => K (.agg cs' :: us') M''
  | .ptr ℓ 0 => match M ℓ with
   | some (.box _ cells) => match allPers cells with
    | true => leakR us (M.set ℓ .dead) fun us' M'' => K (.pd cells :: us') M''
    | false => leakR us M fun us' M'' => K (.ptr ℓ 0 :: us') M''
   | _ => leakR us M fun us' M'' => K (.ptr ℓ 0 :: us') M''
  | u => leakK [u] M fun x M' => leakR us M' fun us' M'' => K (x ++ us') M''
section
variable {S F : Store} {ρ : Env} {M : Mem} {w : World} {P : Program} {tt : TT}
theorem resK_ok (hT : TOkB P tt = true) (hM : RepM S F ρ M w) {a : Act} {fr : List AV} (hF : RepF S ρ a fr) : ∀ (rs : List ResultVar) (k : List AV → Prop), resK tt fr M rs k →
  ∃ vs us, k us ∧ RVs S ρ vs us ∧ vs.length = rs.length ∧ (rs.mapM (resSem a.tmps)).run P w = .ok vs w
 | [], k, h => ⟨[], [], h, RVs.nil _ _, rfl, by simp⟩
 | r :: rs, k, h => by
  cases r with
  | tmp t =>
   simp only [resK, getK_eq] at h
   obtain ⟨vs, us, hk, hv, hl, hr⟩ := resK_ok hT hM hF rs _ h
   exact ⟨a.tmps.getD t undef :: vs, _, hk, RVs.cons (hF.eval (.tmp t)) hv, by simp [hl], by simp [List.mapM_cons, hr, resSem]⟩
  | cell x t =>
   simp only [resK, getK_eq] at h
   have hx := hF.eval (.tmp x)
   obtain ⟨v, u, he, hv, h⟩ := rsK_ok h (evLoad_ok (t := t) hT hM hx).next
   obtain ⟨vs, us, hk, hvs, hl, hr⟩ := resK_ok hT hM hF rs _ h
   have he' : (Instr.loadAt t (a.eval (.tmp x))).run P w = .ok v w := by
    simp only [Sem.run_bind] at he
    cases hq : (Instr.loadAt t (a.eval (.tmp x))).run P w with
    | ok y w' => rw [hq] at he; simp at he; rw [he.1, he.2]
    | halt y w' => rw [hq] at he; simp at he
   have he2 : (resSem a.tmps (.cell x t)).run P w = .ok v w := by
    unfold resSem
    have : a.eval (.tmp x) = a.tmps.getD x undef := rfl
    rw [this] at he'
    show (do loadVar t (← asAddr (a.tmps.getD x undef)) : Sem Value).run P w = .ok v w
    generalize a.tmps.getD x undef = y at he' ⊢
    unfold Instr.loadAt Instr.sureAddr at he'
    cases y with
    | pointer ad =>
     cases ad with
     | some ad => simpa [asAddr] using he'
     | none => simp at he'
    | _ => simp at he'
   exact ⟨v :: vs, _, hk, RVs.cons hv hvs, by simp [hl], by simp [List.mapM_cons, he2, hr]⟩
theorem leakR_ok : ∀ (us : List AV) (vs : List Value) (S : Store) (M : Mem) (K : List AV → Mem → Prop), leakR us M K → RVs S ρ vs us → RepM S F ρ M w →
  ∃ us' M' S', K us' M' ∧ S.le S' ∧ RVs S' ρ vs us' ∧ RepM S' F ρ M' w
 | [], vs, S, M, K, h, hv, hM => ⟨[], M, S, h, Store.le_refl _, hv, hM⟩
 | u :: us, vs, S, M, K, h, hv, hM => by
  obtain ⟨x, xs, rfl, hx, hxs⟩ := hv.cons_inv
  simp only [leakR] at h
  split at h
  ·rename_i cs
   obtain ⟨ys, rfl, hys⟩ := hx.agg_inv
   obtain ⟨cs', M1, S1, h, hle, hc, hM1, _⟩ := leakK_ok _ _ _ _ _ h hys hM
   obtain ⟨us', M', S', hK, hle', hvs', hM'⟩ := leakR_ok us xs S1 M1 _ h (hxs.mono hle (Env.le_refl _)) hM1
   refine ⟨_, M', S', hK, Store.le_trans hle hle', RVs.cons ?_ hvs', hM'⟩
   have := RV.agg_mk (hc.mono hle' (Env.le_refl _))
   simpa using this
  ·split at h
   ·rename_i hl
    split at h
    ·rename_i hp
     obtain ⟨S1, b, hle, hb, hM1, hr⟩ := hM.leakBox hl (fun j u v hu hv => by
      have ho : persA u = true := by
       have : ∀ (l : List AV), allPers l = true → ∀ u ∈ l, persA u = true := by
        intro l
        induction l with
        | nil => intro _ u hu; cases hu
        | cons a l ih =>
         intro hp u hu
         simp only [allPers] at hp
         split at hp
         ·rename_i ha
          rcases List.mem_cons.1 hu with rfl | hu
          ·exact ha
          ·exact ih hp u hu
         ·simp at hp
       exact this _ hp u (List.mem_of_getElem? hu)
      exact (persA_ok ho hv).1)
     obtain ⟨us', M', S', hK, hle', hvs', hM'⟩ := leakR_ok us xs S1 _ _ h (hxs.mono hle (Env.le_refl _)) hM1
     obtain ⟨b', hb', rfl⟩ := hx.ptr_inv
     rw [hb] at hb'; cases hb'
     exact ⟨_, M', S', hK, Store.le_trans hle hle', RVs.cons (.p (hr.mono hle')) hvs', hM'⟩
    ·obtain ⟨us', M', S', hK, hle', hvs', hM'⟩ := leakR_ok us xs S M _ h hxs hM
     exact ⟨_, M', S', hK, hle', RVs.cons (hx.mono hle' (Env.le_refl _)) hvs', hM'⟩
   ·obtain ⟨us', M', S', hK, hle', hvs', hM'⟩ := leakR_ok us xs S M _ h hxs hM
    exact ⟨_, M', S', hK, hle', RVs.cons (hx.mono hle' (Env.le_refl _)) hvs', hM'⟩
  ·obtain ⟨y, M1, S1, h, hle, hc, hM1, _⟩ := leakK_ok _ [x] _ _ _ h (RVs.cons hx (RVs.nil _ _)) hM
   obtain ⟨us', M', S', hK, hle', hvs', hM'⟩ := leakR_ok us xs S1 M1 _ h (hxs.mono hle (Env.le_refl _)) hM1
   exact ⟨_, M', S', hK, Store.le_trans hle hle', (hc.mono hle' (Env.le_refl _)).append hvs', hM'⟩
theorem tupOf_ok {vs : List Value} {us : List AV} (hv : RVs S ρ vs us) : RV S ρ (if h : vs.length = 1 then vs[0] else .tuple vs.toArray) (tupOf us) := by
 cases us with
 | nil => rw [hv.nil_inv]; simpa [tupOf] using RV.tup_mk (RVs.nil S ρ)
 | cons u us =>
  obtain ⟨x, xs, rfl, hx, hxs⟩ := hv.cons_inv
  cases us with
  | nil => have := hxs.nil_inv; subst this; simpa [tupOf] using hx
  | cons u2 us =>
   obtain ⟨x2, xs2, rfl, _, _⟩ := hxs.cons_inv
   simpa [tupOf] using RV.tup_mk hv
def endK (tt : TT) (rs : List ResultVar) (R : AV → Mem → Prop) : APost := fun e fr M => match e with
 | .normal => resK tt fr M rs fun us => R (tupOf us) M
 | .ret => resK tt fr M rs fun us => R (tupOf us) M
 | .exit _ => False
def endL (tt : TT) (rs : List ResultVar) (R : AV → Mem → Prop) : APost := fun e fr M => match e with
 | .normal => resK tt fr M rs fun us => leakR us M fun us' M' => R (tupOf us') M'
 | .ret => resK tt fr M rs fun us => leakR us M fun us' M' => R (tupOf us') M'
 | .exit _ => False
def endP (tt : TT) (rs : List ResultVar) (R : AV → Prop) : APost := fun e fr M => match e with
 | .normal => resK tt fr M rs fun us => leakR us M fun us' _ => R (tupOf us') ∧ persN 5 (tupOf us') = true
 | .ret => resK tt fr M rs fun us => leakR us M fun us' _ => R (tupOf us') ∧ persN 5 (tupOf us') = true
 | .exit _ => False
theorem run_results {fn : Func} {tmps : Array Value} {vs : List Value} (h : (fn.results.toList.mapM (resSem tmps)).run P w = .ok vs w) : (results fn tmps).run P w = .ok (if h : vs.length = 1 then vs[0] else .tuple vs.toArray) w := by
 have e : results fn tmps = (do
   let vs ← fn.results.mapM (resSem tmps)
   pure (if h : vs.size = 1 then vs[0] else .tuple vs)) := by
  unfold results
  congr 2
 rw [e, Array.mapM_eq_mapM_toList]
 simp only [Sem.run_bind, Sem.run_map, h, Result.andThen_ok, Sem.run_pure]
 congr 1
theorem spec_core {f : FuncId} {fn : Func} {c : Code} {args : List AV} {D : List Nat} (hf : P.funcs[f]? = some fn) (hb : fn.body = some c) {Q : APost}
  (hw : padK args (fn.ntmps - args.length) fun fr => WPc P D c fr M Q) {ρ0 : Env} (hD : EnvIn ρ0 D) {vs : List Value} (hM : RepM S F ρ0 M w) (hv : RVs S ρ0 vs args) {R : Ending → World → Prop}
  (hR : ∀ (e : AEx) a' w', After S F ρ0 w (Q e) a' w' → a'.defers = [] → (∀ i, e ≠ .exit i) ∧ ∃ v, (results fn a'.tmps).run P w' = .ok v w' ∧ R (.returned v) w') : Calls P f vs.toArray w R := by
 rw [padK_eq] at hw
 rw [WPc_iff] at hw
 refine calls_of_wp hf hb ?_
 have hlen := hv.1
 have hF : RepF S ρ0 { tmps := vs.toArray ++ Array.replicate (fn.ntmps - vs.toArray.size) undef, defers := [] } (args ++ List.replicate (fn.ntmps - args.length) (.tup [])) := by
  refine ⟨?_, rfl⟩
  have e : (vs.toArray ++ Array.replicate (fn.ntmps - vs.toArray.size) undef).toList = vs ++ List.replicate (fn.ntmps - args.length) undef := by simp [hlen]
  rw [e]
  refine hv.append ⟨by simp, fun i u hu => ?_⟩
  have hi := (List.getElem?_eq_some_iff.1 hu).1
  simp only [List.length_replicate] at hi
  have hu' : u = .tup [] := by
   rw [List.getElem?_replicate] at hu
   simp [hi] at hu
   exact hu.symm
  subst hu'
  exact ⟨undef, by simp [hi], RV.tup_mk (RVs.nil _ _)⟩
 refine wp_mono (hw S F ρ0 ρ0 _ w hD (Env.le_refl _) hM hF) ?_
 rintro e a' w' ⟨x, hx, ha⟩
 have hd : a'.defers = [] := by obtain ⟨_, _, _, _, _, _, _, _, hF', _⟩ := ha; exact hF'.2
 obtain ⟨h1, v, h2, h3⟩ := hR x a' w' ha hd
 cases e with
 | normal => exact ⟨hd, v, h2, h3⟩
 | ret => exact ⟨hd, v, h2, h3⟩
 | exit i => cases hx; exact absurd rfl (h1 i)
 | goto l => cases hx
 | panic l => cases hx
 | outgrown => cases hx
theorem plain_of {f : FuncId} {fn : Func} {c : Code} (hf : P.funcs[f]? = some fn) (hb : fn.body = some c) (hn : (fn.name == "runtime.NumGoroutine") = false) : Plain P f := ⟨fn, hf, hn, by rw [hb]; rfl⟩
theorem Spec.intro (hT : TOkB P tt = true) (hm : P.follows .mixedOrders = true) {f : FuncId} {fn : Func} {c : Code} {args : List AV} (L : List (Nat × Blk)) {R : AV → Mem → Prop} (hf : P.funcs[f]? = some fn) (hb : fn.body = some c) (hn : (fn.name == "runtime.NumGoroutine") = false)
  (h : padK args (fn.ntmps - args.length) fun fr => codeK P tt (L.map (·.1)) c fr (Mem.ofL L) (endK tt fn.results.toList R)) : Spec P f args (Mem.ofL L) R := by
 rw [Spec_iff]
 refine ⟨plain_of hf hb hn, fun S F ρ vs w hM hv => ?_⟩
 have hD : EnvIn ρ (L.map (·.1)) := fun ℓ b hb => by
  have := hM.dom ℓ b hb
  cases hB : Mem.ofL L ℓ with
  | none => exact absurd hB this
  | some B => exact List.mem_map_of_mem (f := (·.1)) (ofL_mem hB)
 refine spec_core (D := L.map (·.1)) (Q := endK tt fn.results.toList R) hf hb ?_ hD hM hv fun e a' w' ha hd => ?_
 ·rw [padK_eq] at h ⊢; exact codeK_ok hT hm c _ _ _ h
 ·obtain ⟨fr, M', S', ρ', hk, h1, h2, h3, h4, h5⟩ := ha
  have fin : resK tt fr M' fn.results.toList (fun us => R (tupOf us) M') → ∃ v, (results fn a'.tmps).run P w' = .ok v w' ∧ CallPost S F ρ w R (.returned v) w' := by
   intro hk
   obtain ⟨vs', us, hK, hvs, hl, hr⟩ := resK_ok hT h3 h4 _ _ hk
   exact ⟨_, run_results hr, _, _, M', S', ρ', rfl, hK, h1, h2, h3, tupOf_ok hvs, h5⟩
  cases e with
  | normal => exact ⟨by simp, fin hk⟩
  | ret => exact ⟨by simp, fin hk⟩
  | exit i => exact hk.elim
theorem Spec.introL (hT : TOkB P tt = true) (hm : P.follows .mixedOrders = true) {f : FuncId} {fn : Func} {c : Code} {args : List AV} (L : List (Nat × Blk)) {R : AV → Mem → Prop} (hf : P.funcs[f]? = some fn) (hb : fn.body = some c) (hn : (fn.name == "runtime.NumGoroutine") = false)
  (h : padK args (fn.ntmps - args.length) fun fr => codeK P tt (L.map (·.1)) c fr (Mem.ofL L) (endL tt fn.results.toList R)) : Spec P f args (Mem.ofL L) R := by
 rw [Spec_iff]
 refine ⟨plain_of hf hb hn, fun S F ρ vs w hM hv => ?_⟩
 have hD : EnvIn ρ (L.map (·.1)) := fun ℓ b hb => by
  have := hM.dom ℓ b hb
  cases hB : Mem.ofL L ℓ with
  | none => exact absurd hB this
  | some B => exact List.mem_map_of_mem (f := (·.1)) (ofL_mem hB)
 refine spec_core (D := L.map (·.1)) (Q := endL tt fn.results.toList R) hf hb ?_ hD hM hv fun e a' w' ha hd => ?_
 ·rw [padK_eq] at h ⊢; exact codeK_ok hT hm c _ _ _ h
 ·obtain ⟨fr, M', S', ρ', hk, h1, h2, h3, h4, h5⟩ := ha
  have fin : (resK tt fr M' fn.results.toList fun us => leakR us M' fun us' M'' => R (tupOf us') M'') → ∃ v, (results fn a'.tmps).run P w' = .ok v w' ∧ CallPost S F ρ w R (.returned v) w' := by
   intro hk
   obtain ⟨vs', us, hK, hvs, hl, hr⟩ := resK_ok hT h3 h4 _ _ hk
   obtain ⟨us', M2, S2, hR, hle, hvs2, hM2⟩ := leakR_ok _ _ _ _ _ hK hvs h3
   exact ⟨_, run_results hr, _, _, M2, S2, ρ', rfl, hR, Store.le_trans h1 hle, h2, hM2, tupOf_ok hvs2, h5⟩
  cases e with
  | normal => exact ⟨by simp, fin hk⟩
  | ret => exact ⟨by simp, fin hk⟩
  | exit i => exact hk.elim
theorem PSpec.intro (hT : TOkB P tt = true) (hm : P.follows .mixedOrders = true) {f : FuncId} {fn : Func} {c : Code} {args : List AV} {R : AV → Prop} (hf : P.funcs[f]? = some fn) (hb : fn.body = some c) (hn : (fn.name == "runtime.NumGoroutine") = false)
  (h : padK args (fn.ntmps - args.length) fun fr => codeK P tt [] c fr Mem.none (endP tt fn.results.toList R)) : PSpec P f args R := by
 rw [PSpec_iff]
 refine ⟨plain_of hf hb hn, fun S F vs w hg hs hfr hd hv => ?_⟩
 refine spec_core (M := Mem.none) (ρ0 := fun _ => none) (D := []) (Q := endP tt fn.results.toList R) hf hb ?_ (fun ℓ b hb => by cases hb) ⟨hs, hfr, hd, by simp, by simp [Mem.none], by simp, hg⟩ (hv.rv _) fun e a' w' ha hd' => ?_
 ·rw [padK_eq] at h ⊢; exact codeK_ok hT hm c _ _ _ h
 ·obtain ⟨fr, M', S', ρ', hk, h1, h2, h3, h4, h5⟩ := ha
  have fin : (resK tt fr M' fn.results.toList fun us => leakR us M' fun us' _ => R (tupOf us') ∧ persN 5 (tupOf us') = true) → ∃ v, (results fn a'.tmps).run P w' = .ok v w' ∧ PurePost S F w R (.returned v) w' := by
   intro hk
   obtain ⟨vs', us, hK, hvs, hl, hr⟩ := resK_ok hT h3 h4 _ _ hk
   obtain ⟨us', M2, S2, ⟨hR, hp⟩, hle, hvs2, hM2⟩ := leakR_ok _ _ _ _ _ hK hvs h3
   exact ⟨_, run_results hr, _, _, S2, rfl, hR, Store.le_trans h1 hle, hM2.sw, hM2.fw, hM2.sf, persN_ok 5 hp (tupOf_ok hvs2), h5⟩
  cases e with
  | normal => exact ⟨by simp, fin hk⟩
  | ret => exact ⟨by simp, fin hk⟩
  | exit i => exact hk.elim
theorem PSpec.introZ (ti : TypeId) (hT : TOkB P tt = true) (hm : P.follows .mixedOrders = true) {f : FuncId} {fn : Func} {c : Code} {args : List AV} {R : AV → Prop} (hf : P.funcs[f]? = some fn) (hb : fn.body = some c) (hn : (fn.name == "runtime.NumGoroutine") = false)
  (h : padK args (fn.ntmps - args.length) fun fr => codeK P tt [9998] c fr (Mem.ofL [(9998, .row ti (0 : Int) encI [])]) (endP tt fn.results.toList R)) : PSpec P f args R := by
 rw [PSpec_iff]
 refine ⟨plain_of hf hb hn, fun S F vs w hg hs hfr hd hv => ?_⟩
 have h0 : RepM S F (Env.set (fun _ => none) 9998 ⟨0, 0, 0, 1, true⟩) (Mem.none.set 9998 (.row ti (0 : Int) encI [])) w :=
  RepM.add (ρ := fun _ => none) (M := Mem.none) ⟨hs, hfr, hd, by simp, by simp [Mem.none], by simp, hg⟩ rfl _ _ (fun _ _ _ h1 => by cases h1) ⟨rfl, by simp, .inl ⟨rfl, rfl, rfl⟩⟩
 have e0 : Mem.none.set 9998 (.row ti (0 : Int) encI []) = Mem.ofL [(9998, .row ti (0 : Int) encI [])] := by
  funext x
  unfold Mem.set Mem.ofL
  cases h1 : Nat.beq x 9998 with
  | true => rw [Nat.eq_of_beq_eq_true h1]
  | false =>
   have : Nat.beq 9998 x = false := by rw [Bool.eq_false_iff]; intro e; rw [Nat.eq_of_beq_eq_true e] at h1; rw [Nat.beq_refl] at h1; cases h1
   rw [this]; rfl
 rw [e0] at h0
 refine spec_core (D := [9998]) (Q := endP tt fn.results.toList R) hf hb ?_ (fun ℓ b hb => ?_) h0 (hv.rv _) fun e a' w' ha hd' => ?_
 ·rw [padK_eq] at h ⊢; exact codeK_ok hT hm c _ _ _ h
 ·by_cases e : ℓ = 9998
  ·exact List.mem_singleton.2 e
  ·rw [Env.set_ne _ _ e] at hb; cases hb
 ·obtain ⟨fr, M', S', ρ', hk, h1, h2, h3, h4, h5⟩ := ha
  have fin : (resK tt fr M' fn.results.toList fun us => leakR us M' fun us' _ => R (tupOf us') ∧ persN 5 (tupOf us') = true) → ∃ v, (results fn a'.tmps).run P w' = .ok v w' ∧ PurePost S F w R (.returned v) w' := by
   intro hk
   obtain ⟨vs', us, hK, hvs, hl, hr⟩ := resK_ok hT h3 h4 _ _ hk
   obtain ⟨us', M2, S2, ⟨hR, hp⟩, hle, hvs2, hM2⟩ := leakR_ok _ _ _ _ _ hK hvs h3
   exact ⟨_, run_results hr, _, _, S2, rfl, hR, Store.le_trans h1 hle, hM2.sw, hM2.fw, hM2.sf, persN_ok 5 hp (tupOf_ok hvs2), h5⟩
  cases e with
  | normal => exact ⟨by simp, fin hk⟩
  | ret => exact ⟨by simp, fin hk⟩
  | exit i => exact hk.elim
end
end Go.Proofs.YtnjggjhkfncnlaaGreatDoor
namespace Go.Proofs.YtnjggjhkfncnlaaGreatDoor
section
variable {M : Mem} {P : Program}
theorem overM_one (ℓ : Nat) (B : Blk) (M : Mem) : overM [(ℓ, B)] M = M.set ℓ B := by
 funext x
 simp only [overM, Mem.ofL, Mem.set]
 by_cases h : x = ℓ
 ·subst h; simp
 ·have h1 : Nat.beq ℓ x = false := by rw [Bool.eq_false_iff]; intro hh; exact h (Nat.eq_of_beq_eq_true hh).symm
  have h2 : Nat.beq x ℓ = false := by rw [Bool.eq_false_iff]; intro hh; exact h (Nat.eq_of_beq_eq_true hh)
  simp [h1, h2]
def newRow (n sz : Nat) (B : Blk) : AV → Mem → Prop := fun u M => ∃ ℓ0, u = .row ℓ0 n sz ∧ blkR [] 1 (M ℓ0) B
theorem Spec.fresh {f : FuncId} {args : List AV} {K : AV → Mem → Prop} {n sz : Nat} {t : TypeId} {α : Type} {d : α} {enc : α → List AV} {l : List α} (ℓ : Nat)
  (h : Spec P f args (Mem.ofL []) (fun u M => ∃ ℓ0, u = .row ℓ0 n sz ∧ M ℓ0 = some (.row t d enc l))) (hf : (M ℓ).isNone = true) (ha : avRs [] 400 args args)
  (hk : K (.row ℓ n sz) (M.set ℓ (.row t d enc l))) : Spec P f args M K := by
 refine Spec.call [] [] 400 rfl trivial ha h ?_
 rintro u M' ⟨ℓ0, rfl, e⟩
 refine ⟨[(ℓ, .old ℓ0)], [(ℓ, .row t d enc l)], .row ℓ n sz, ?_, ?_, ?_, ?_⟩
 ·simp [keysB, oldsL, notDead, oldsB, backB, freshB, Mem.ofL, hf]
 ·simp [memR, lmFind, blkR, e]
 ·simp [avR, lmFind]
 ·rw [overM_one]; exact hk
theorem callLP {f : FuncId} {args : List AV} {K : AV → Mem → Prop} (n : Nat) {u0 : AV} (h : PSpec P f args (fun u => u = u0)) (hp : args.all (persN n) = true) (ha : avRs [] 400 args args) (hu : avR [] 400 u0 u0) (hk : K u0 M) : callL P f args M K :=
 ⟨fun u _ => u = u0, 400, [], [], u0, Spec.of_pure (n := n) h hp fun u hu => hu, ha, rfl, rfl, fun u M' e => by subst e; exact ⟨trivial, hu⟩, hk⟩
theorem callLN {f : FuncId} {args : List AV} {K : AV → Mem → Prop} {R : AV → Mem → Prop} (n : Nat) (lb : LMap) (L2 : List (Nat × Blk)) (u' : AV) (h : Spec P f args (Mem.ofL []) R) (ha : avRs [] n args args)
  (hb : (keysB lb L2 && oldsL L2 lb && backB [] lb && freshB [] lb M) = true) (hf : L2.all (fun p => (M p.1).isNone) = true) (hr : ∀ u M', R u M' → memR lb n M' L2 ∧ avR lb n u u') (hk : K u' (overM L2 M)) : callL P f args M K :=
 ⟨R, n, lb, L2, u', h, ha, hb, hf, hr, hk⟩
theorem Spec.news {f : FuncId} {args : List AV} {K : AV → Mem → Prop} {R : AV → Mem → Prop} (n : Nat) (lb : LMap) (L2 : List (Nat × Blk)) (u' : AV) (h : Spec P f args (Mem.ofL []) R) (ha : avRs [] n args args)
  (hb : (keysB lb L2 && oldsL L2 lb && backB [] lb && freshB [] lb M) = true) (hr : ∀ u M', R u M' → memR lb n M' L2 ∧ avR lb n u u') (hk : K u' (overM L2 M)) : Spec P f args M K :=
 Spec.call [] [] n rfl trivial ha h fun u M' hR => ⟨lb, L2, u', hb, (hr u M' hR).1, (hr u M' hR).2, hk⟩
end
end Go.Proofs.YtnjggjhkfncnlaaGreatDoor
namespace Go.Proofs.YtnjggjhkfncnlaaGreatDoor
def modsOps : List Oper → List Nat → List Nat
 | [], r => r
 | o :: l, r => match o.dst with
  | some d => d :: modsOps l r
  | none => modsOps l r
def modsC : Code → List Nat → List Nat
 | .region _ ops _, r => modsOps ops.toList r
 | .seq a b, r => modsC a (modsC b r)
 | .cond _ a b, r => modsC a (modsC b r)
 | .block _ a, r => modsC a r
 | .loop a, r => modsC a r
 | .rangeFunc _ ps a b, r => ps.toList ++ modsC a (modsC b r)
 | .scope a, r => modsC a r
 | _, r => r
def forceN : List Nat → (List Nat → Prop) → Prop
 | [], k => k []
 | n :: l, k => forceN l fun l' => k (n :: l')
theorem forceN_eq : ∀ (l : List Nat) (k : List Nat → Prop), forceN l k = k l
 | [], _ => rfl
 | n :: l, k => by rw [forceN, forceN_eq l]
def hasN : List Nat → Nat → Bool
 | [], _ => false
 | n :: l, i => match Nat.beq n i with | true => true | false => hasN l i
def maskK : List AV → Nat → List Nat → (List AV → Prop) → Prop
 | [], _, _, k => k []
 | u :: fr, i, ms, k => match hasN ms i with
  | true => maskK fr (Nat.succ i) ms fun r => k (.top :: r)
  | false => match u with
   | .tup _ => maskK fr (Nat.succ i) ms fun r => k (.top :: r)
   | u => maskK fr (Nat.succ i) ms fun r => k (u :: r)
theorem maskK_ex : ∀ (fr : List AV) (i : Nat) (ms : List Nat) (k : List AV → Prop), maskK fr i ms k → ∃ fr0, k fr0
 | [], _, _, k, h => ⟨[], h⟩
 | u :: fr, i, ms, k, h => by
  unfold maskK at h
  split at h
  ·obtain ⟨r, hr⟩ := maskK_ex fr _ _ _ h; exact ⟨_, hr⟩
  ·split at h
   ·obtain ⟨r, hr⟩ := maskK_ex fr _ _ _ h; exact ⟨_, hr⟩
   ·obtain ⟨r, hr⟩ := maskK_ex fr _ _ _ h; exact ⟨_, hr⟩
def setsF : List AV → List (Nat × AV) → List AV
 | fr, [] => fr
 | fr, (i, u) :: us => setsF (fr.set i u) us
def setsK : List AV → List (Nat × AV) → (List AV → Prop) → Prop
 | fr, [], k => k fr
 | fr, (i, u) :: us, k => putK fr i u fun fr' => setsK fr' us k
theorem setsK_eq : ∀ (us : List (Nat × AV)) (fr : List AV) (k : List AV → Prop), setsK fr us k = k (setsF fr us)
 | [], _, _ => rfl
 | (i, u) :: us, fr, k => by rw [setsK, putK_eq, setsK_eq us]; rfl
def idL (L : List (Nat × Blk)) : LMap := L.map fun p => (p.1, .old p.1)
theorem Sub.id_ {D : List Nat} {fr fr' : List AV} {M : Mem} {L : List (Nat × Blk)} (n : Nat) (hs : (keysB (idL L) L && oldsL L (idL L) && keepB (idL L) D) = true) (hm : memR (idL L) n M L) (hf : avRs (idL L) n fr fr') : Sub D fr M fr' (Mem.ofL L) :=
 Sub.by_ (idL L) L n hs hm hf
theorem sI {D : List Nat} {fr fr' : List AV} {M : Mem} {L : List (Nat × Blk)} (hm : memR (idL L) 400 M L := by repeat' (first | exact True.intro | exact rfl | (refine And.intro ?_ ?_) | ((conv => whnf); omega) | ((conv => whnf); simp only [List.length_append, List.length_cons, List.length_nil]; done) | ((conv => whnf); simp only [List.length_append, List.length_cons, List.length_nil]; omega))) (hf : avRs (idL L) 400 fr fr' := by repeat' (first | exact True.intro | exact rfl | (refine And.intro ?_ ?_) | ((conv => whnf); omega) | ((conv => whnf); simp only [List.length_append, List.length_cons, List.length_nil]; done) | ((conv => whnf); simp only [List.length_append, List.length_cons, List.length_nil]; omega))) (hs : (keysB (idL L) L && oldsL L (idL L) && keepB (idL L) D) = true := by exact rfl) : Sub D fr M fr' (Mem.ofL L) := Sub.id_ 400 hs hm hf
theorem Spec.norm {P : Program} {f : FuncId} {args : List AV} {L0 : List (Nat × Blk)} {R R' : AV → Mem → Prop} (n : Nat) (h : Spec P f args (Mem.ofL L0) R)
  (hk : ∀ u M', R u M' → ∃ (L : List (Nat × Blk)) (u' : AV), (keysB (idL L) L && oldsL L (idL L) && keepB (idL L) (L0.map (·.1))) = true ∧ memR (idL L) n M' L ∧ avR (idL L) n u u' ∧ R' u' (Mem.ofL L)) : Spec P f args (Mem.ofL L0) R' := by
 rw [Spec_iff] at h ⊢
 refine ⟨h.1, fun S F ρ vs w hM hv => (h.2 S F ρ vs w hM hv).mono ?_⟩
 rintro e w' ⟨v, u, M', S', ρ', rfl, hR, hle, hρ, hM', hr, hw⟩
 obtain ⟨L, u', hb, hm, ha, hR'⟩ := hk u M' hR
 simp only [Bool.and_eq_true] at hb
 obtain ⟨⟨hb1, hb2⟩, hb3⟩ := hb
 refine ⟨v, u', _, S', lmEnv (idL L) ρ', rfl, hR', hle, fun ℓ b hb => ?_, hM'.relabel hm hb1 hb2, (avR_ok n).1 u u' v ha hr, hw⟩
 have hd := hM.dom ℓ b hb
 obtain ⟨B, hB⟩ : ∃ B, Mem.ofL L0 ℓ = some B := by
  cases h : Mem.ofL L0 ℓ with
  | none => exact absurd h hd
  | some B => exact ⟨B, rfl⟩
 have hmem := List.mem_map_of_mem (f := (·.1)) (ofL_mem hB)
 have := List.all_eq_true.1 hb3 _ hmem
 simp only at this
 split at this
 ·rename_i m hm'
  have := Nat.eq_of_beq_eq_true this
  subst this
  show lmEnv (idL L) ρ' _ = _
  unfold lmEnv
  rw [hm']
  exact hρ _ _ hb
 ·cases this
theorem Spec.renorm {P : Program} {f : FuncId} {args : List AV} {L0 : List (Nat × Blk)} {R R' : AV → Mem → Prop} (n : Nat) (h : Spec P f args (Mem.ofL L0) R)
  (hk : ∀ u M', R u M' → ∃ (lm : LMap) (L : List (Nat × Blk)) (u' : AV), (keysB lm L && oldsL L lm && keepB lm (L0.map (·.1))) = true ∧ memR lm n M' L ∧ avR lm n u u' ∧ R' u' (Mem.ofL L)) : Spec P f args (Mem.ofL L0) R' := by
 rw [Spec_iff] at h ⊢
 refine ⟨h.1, fun S F ρ vs w hM hv => (h.2 S F ρ vs w hM hv).mono ?_⟩
 rintro e w' ⟨v, u, M', S', ρ', rfl, hR, hle, hρ, hM', hr, hw⟩
 obtain ⟨lm, L, u', hb, hm, ha, hR'⟩ := hk u M' hR
 simp only [Bool.and_eq_true] at hb
 obtain ⟨⟨hb1, hb2⟩, hb3⟩ := hb
 refine ⟨v, u', _, S', lmEnv lm ρ', rfl, hR', hle, fun ℓ b hb => ?_, hM'.relabel hm hb1 hb2, (avR_ok n).1 u u' v ha hr, hw⟩
 have hd := hM.dom ℓ b hb
 obtain ⟨B, hB⟩ : ∃ B, Mem.ofL L0 ℓ = some B := by
  cases h : Mem.ofL L0 ℓ with
  | none => exact absurd h hd
  | some B => exact ⟨B, rfl⟩
 have hmem := List.mem_map_of_mem (f := (·.1)) (ofL_mem hB)
 have := List.all_eq_true.1 hb3 _ hmem
 simp only at this
 split at this
 ·rename_i m hm'
  have := Nat.eq_of_beq_eq_true this
  subst this
  show lmEnv lm ρ' _ = _
  unfold lmEnv
  rw [hm']
  exact hρ _ _ hb
 ·cases this
section
variable {P : Program} {tt : TT} {D : List Nat}
theorem WPc.loopF (hT : TOkB P tt = true) (hm : P.follows .mixedOrders = true) {c : Code} {fr : List AV} {M : Mem} {Q : APost} {X : Type _} (I : X → Prop) (us : X → List (Nat × AV)) (L : X → List (Nat × Blk)) (μ : X → Nat) (x0 : X) (hi : I x0)
  (h : forceN (modsC c []) fun ms => maskK fr 0 ms fun fr0 => Sub D fr M (setsF fr0 (us x0)) (Mem.ofL (L x0)) ∧
   ∀ x, I x → setsK fr0 (us x) fun fr1 => codeK P tt D c fr1 (Mem.ofL (L x)) (loopPost D I (fun x => setsF fr0 (us x)) (fun x => Mem.ofL (L x)) μ x Q)) : WPc P D (.loop c) fr M Q := by
 rw [forceN_eq] at h
 obtain ⟨fr0, h0, h⟩ := maskK_ex _ _ _ _ h
 refine WPc.loop I (fun x => setsF fr0 (us x)) (fun x => Mem.ofL (L x)) μ x0 hi h0 fun x hx => ?_
 have := h x hx
 rw [setsK_eq] at this
 exact codeK_ok hT hm _ _ _ _ this
end
end Go.Proofs.YtnjggjhkfncnlaaGreatDoor
namespace Go.Proofs.YtnjggjhkfncnlaaGreatDoor
theorem Spec.dcall {P : Program} {M : Mem} {f : FuncId} {args : List AV} {p : Prop} {i : Decidable p} {K : AV → Mem → Prop} {n : Nat} (h : PSpec P f args (fun u => u = .bool (@decide p i))) (hp : args.all (persN n) = true) (ht : p → K (.bool true) M) (hf : ¬ p → K (.bool false) M) : Spec P f args M K :=
 Spec.of_pure (n := n) h hp fun u hu => by
  subst hu
  by_cases hh : p
  ·rw [decide_eq_true hh]; exact ht hh
  ·rw [decide_eq_false hh]; exact hf hh
theorem callD {P : Program} {f : FuncId} {args : List AV} {p : Prop} {i : Decidable p} {K : AV → Prop} (n : Nat) (h : PSpec P f args (fun u => u = .bool (@decide p i))) (hp : args.all (persN n) = true) (ht : p → K (.bool true)) (hf : ¬ p → K (.bool false)) : callP P f args K :=
 callPI n h hp ⟨_, rfl⟩ fun u hu => by
  subst hu
  by_cases hh : p
  ·rw [decide_eq_true hh]; exact ht hh
  ·rw [decide_eq_false hh]; exact hf hh
theorem PSpec.dec {P : Program} {f : FuncId} {args : List AV} {p q : Prop} {i : Decidable p} {j : Decidable q} (h : PSpec P f args (fun u => u = .bool (@decide p i))) (e : p ↔ q) : PSpec P f args (fun u => u = .bool (@decide q j)) := by
 refine h.mono fun u hu => ?_
 rw [hu]
 congr 1
 simp [e]
theorem dec_t {p : Prop} {i : Decidable p} (h : p) : AV.bool true = .bool (@decide p i) := by rw [decide_eq_true h]
theorem dec_f {p : Prop} {i : Decidable p} (h : ¬ p) : AV.bool false = .bool (@decide p i) := by rw [decide_eq_false h]
def borA (M : Mem) : AV → AV
 | .row ℓ n sz => match M ℓ with
  | some (.row _ d enc l) => .sl d enc l
  | some (.gone d enc l) => .sl d enc l
  | _ => .row ℓ n sz
 | .ptr ℓ o => match M ℓ with
  | some (.box _ cells) => match allPers cells with
   | true => .pd (cells.drop o)
   | false => .ptr ℓ o
  | _ => .ptr ℓ o
 | u => u
def borB (M : Mem) : AV → AV
 | .agg cs => .agg (cs.map (borA M))
 | .fn f cs => .fn f (cs.map (borA M))
 | u => borA M u
def lentB : Blk → Bool
 | .row _ _ _ _ => true
 | .box _ _ => true
 | .hdr _ _ _ => true
 | _ => false
def flatA : AV → Bool
 | .int _ _ | .bool _ | .str _ | .nilsl | .top => true
 | _ => false
def flatB : AV → Bool
 | .tup cs => cs.all flatA
 | .agg cs => cs.all flatA
 | u => flatA u
section
variable {P : Program} {S F : Store} {ρ : Env} {M : Mem} {w : World}
def rowAt (ρ : Env) (M : Mem) (k : Nat) : Prop := ∃ ℓ B b, M ℓ = some B ∧ ρ ℓ = some b ∧ lentB B = true ∧ B.live b ∧ b.blk = k
noncomputable def lendS (S : Store) (ρ : Env) (M : Mem) (w : World) : Store := fun k => open Classical in if rowAt ρ M k then w.heap[k]? else S k
theorem rowAt_off (hM : RepM S F ρ M w) {k : Nat} (h : rowAt ρ M k) : S k = none ∧ F k = none ∧ k < w.heap.size := by
 obtain ⟨ℓ, B, b, h1, h2, _, h3, rfl⟩ := h
 obtain ⟨b', hb', hr⟩ := hM.blk _ _ h1
 rw [h2] at hb'; cases hb'
 exact ⟨(hr.off h3).1, (hr.off h3).2, hr.lt h3⟩
theorem lendS_le (hM : RepM S F ρ M w) : S.le (lendS S ρ M w) := by
 intro k o hk
 unfold lendS
 split
 ·rename_i h
  rw [(rowAt_off hM h).1] at hk; cases hk
 ·exact hk
theorem lendS_in (hM : RepM S F ρ M w) : (lendS S ρ M w).inW w := by
 intro k o hk
 unfold lendS at hk
 split at hk
 ·exact hk
 ·exact hM.sw k o hk
theorem borA_ok (hM : RepM S F ρ M w) {v : Value} {u : AV} (h : RV S ρ v u) : RV (lendS S ρ M w) ρ v (borA M u) := by
 have hle := lendS_le (S := S) (F := F) hM
 unfold borA
 split
 ·rename_i ℓ n sz
  split
  ·rename_i t α d enc l hl
   obtain ⟨b, hb, hn, hs, hz, rfl⟩ := h.row_inv
   obtain ⟨b', hb', hlen, hszs, hcase⟩ := hM.blk _ _ hl
   rw [hb] at hb'; cases hb'
   rcases hcase with ⟨hnil, rfl, hcap⟩ | ⟨hnil, hcap, vs, hheap, hsize, hcell, hS, hF⟩
   ·have e : b.hdr = .slice none 0 0 := by simp only [Lab.hdr, hnil, if_true, hcap]; simp at hlen; rw [hlen]
    rw [e]
    exact .p (.sl d enc [] none 0 1 (fun _ _ => .int .i64 0) (by simp) (by simp) (by simp) (fun i j hi => by simp at hi) (by simp) (fun i a j u hi => by simp at hi))
   ·have e : b.hdr = .slice (some ⟨b.blk, 0, none⟩) l.length b.cap := by simp only [Lab.hdr, hnil, hlen]; rfl
    rw [e]
    have hl1 : lendS S ρ M w b.blk = some (.cells vs t (0, 0)) := by
     unfold lendS
     rw [if_pos ⟨ℓ, _, b, hl, hb, rfl, hnil, rfl⟩]
     exact hheap
    refine .p (.sl d enc l (some ⟨b.blk, 0, none⟩) b.cap b.sz (fun i j => vs.getD (i * b.sz + j) undef) hcap (fun a ha => (hszs a ha).2) (fun a ha => (hszs a ha).1) (fun i j hi hj => ⟨_, rfl, ?_⟩) (by simp) (fun i a j u hi hu => ?_))
    ·rw [Addr.add_mk]
     have : i * b.sz + j < vs.size := by
      rw [hsize]
      have : (i + 1) * b.sz ≤ b.cap * b.sz := Nat.mul_le_mul_right _ (by omega)
      rw [Nat.add_mul] at this
      omega
     unfold Store.cell
     simp only [hl1]
     simp [this]
    ·obtain ⟨v, hv, hvr⟩ := hcell i a j u hi hu
     have : vs.getD (i * b.sz + j) undef = v := by simp [hv]
     rw [this]
     exact hvr.mono hle
  ·rename_i α d enc l hl
   obtain ⟨b, hb, hn, hs, hz, rfl⟩ := h.row_inv
   obtain ⟨b', hb', hlen, hr⟩ := hM.blk _ _ hl
   rw [hb] at hb'; cases hb'
   exact .p (hr.mono hle)
  ·exact h.mono hle (Env.le_refl _)
 ·rename_i ℓ o
  split
  ·rename_i t cells hl
   split
   ·rename_i hp
    obtain ⟨b, hb, rfl⟩ := h.ptr_inv
    obtain ⟨b', hb', vs, hheap, hvs, hS, hF⟩ := hM.blk _ _ hl
    rw [hb] at hb'; cases hb'
    have hps := (allPers_ok hp hvs).1
    have hl1 : lendS S ρ M w b.blk = some (.cells vs t (0, 0)) := by
     unfold lendS
     rw [if_pos ⟨ℓ, _, b, hl, hb, rfl, trivial, rfl⟩]
     exact hheap
    refine .p (.pd _ _ (fun j => vs.getD (o + j) undef) (fun j hj => ?_) (fun j u hu => ?_))
    ·rw [Addr.add_mk]
     have hl2 := hps.1
     have : o + j < vs.size := by simp at hj hl2; omega
     unfold Store.cell
     simp only [hl1]
     simp [this]
    ·rw [List.getElem?_drop] at hu
     obtain ⟨v, hv, hvr⟩ := hps.2 _ u hu
     have hv' : vs[o + j]? = some v := by simpa using hv
     have : vs.getD (o + j) undef = v := by simp [hv']
     rw [this]
     exact hvr.mono hle
   ·exact h.mono hle (Env.le_refl _)
  ·exact h.mono hle (Env.le_refl _)
 ·exact h.mono hle (Env.le_refl _)
theorem borB_ok (hM : RepM S F ρ M w) {v : Value} {u : AV} (h : RV S ρ v u) : RV (lendS S ρ M w) ρ v (borB M u) := by
 unfold borB
 split
 ·rename_i cs
  obtain ⟨vs, rfl, hr⟩ := h.agg_inv
  have : RVs (lendS S ρ M w) ρ vs.toList (cs.map (borA M)) := ⟨by simpa using hr.1, fun i u hu => by
   rw [List.getElem?_map] at hu
   obtain ⟨u0, h0, rfl⟩ := Option.map_eq_some_iff.1 hu
   obtain ⟨v, hv, hvr⟩ := hr.2 i u0 h0
   exact ⟨v, hv, borA_ok hM hvr⟩⟩
  have := RV.agg_mk this
  simpa using this
 ·rename_i f cs
  obtain ⟨vs, rfl, hr⟩ := h.fn_inv
  have : RVs (lendS S ρ M w) ρ vs.toList (cs.map (borA M)) := ⟨by simpa using hr.1, fun i u hu => by
   rw [List.getElem?_map] at hu
   obtain ⟨u0, h0, rfl⟩ := Option.map_eq_some_iff.1 hu
   obtain ⟨v, hv, hvr⟩ := hr.2 i u0 h0
   exact ⟨v, hv, borA_ok hM hvr⟩⟩
  have := RV.fn_mk f this
  simpa using this
 ·exact borA_ok hM h
theorem flatA_ok {S S' : Store} {v : Value} {u : AV} (hf : flatA u = true) (h : RP S v u) : RP S' v u := by
 cases h <;> first | (simp [flatA] at hf; done) | constructor
theorem flatB_ok {S S' : Store} {v : Value} {u : AV} (hf : flatB u = true) (h : RP S v u) : RP S' v u := by
 cases u with
 | tup cs =>
  cases h with
  | tup _ vs hs vals he hv => exact .tup cs vs hs vals he fun j u hu => flatA_ok (List.all_eq_true.1 hf u (List.mem_of_getElem? hu)) (hv j u hu)
 | agg cs =>
  cases h with
  | agg _ vs hs vals he hv => exact .agg cs vs hs vals he fun j u hu => flatA_ok (List.all_eq_true.1 hf u (List.mem_of_getElem? hu)) (hv j u hu)
 | _ => exact flatA_ok hf h
noncomputable def backS (S' : Store) (ρ : Env) (M : Mem) : Store := fun k => open Classical in if rowAt ρ M k then none else S' k
theorem backS_row {S' : Store} {k : Nat} (h : rowAt ρ M k) : backS S' ρ M k = none := by unfold backS; rw [if_pos h]
theorem backS_no {S' : Store} {k : Nat} (h : ¬ rowAt ρ M k) : backS S' ρ M k = S' k := by unfold backS; rw [if_neg h]
theorem Spec.borrowG {f : FuncId} {args args' : List AV} {R : AV → Prop} {K : AV → Mem → Prop} (h : PSpec P f args' R) (hconv : ∀ S F ρ w vs, RepM S F ρ M w → RVs S ρ vs args → RPs (lendS S ρ M w) vs args') (hfl : ∀ u, R u → flatB u = true) (hk : ∀ u, R u → K u M) : Spec P f args M K := by
 rw [Spec_iff]
 rw [PSpec_iff] at h
 refine ⟨h.1, ?_⟩
 intro S F ρ vs w hM hv
 have hle := lendS_le (S := S) (F := F) hM
 let own : Nat → Prop := fun ℓ => ∃ B, M ℓ = some B ∧ lentB B = true
 have hargs := hconv S F ρ w vs hM hv
 have hsf : ∀ k, lendS S ρ M w k = none ∨ keepF F ρ M w own k = none := by
  intro k
  by_cases hr : rowAt ρ M k
  ·right
   obtain ⟨ℓ, B, b, h1, h2, h3, h4, rfl⟩ := hr
   unfold keepF
   rw [if_neg]
   ·exact (rowAt_off hM ⟨ℓ, B, b, h1, h2, h3, h4, rfl⟩).2.1
   ·rintro ⟨y, C, c, g1, g2, g3, g4, g5⟩
    refine hM.inj y ℓ C _ c b g1 h1 g2 h2 g3 h4 (fun e => ?_) g4
    subst e
    exact g5 ⟨B, h1, h3⟩
  ·have e : lendS S ρ M w k = S k := by unfold lendS; rw [if_neg hr]
   rw [e]
   exact keepF_sf hM k
 refine (h.2 (lendS S ρ M w) (keepF F ρ M w own) vs w (hM.gl.mono hle) (lendS_in hM) (keepF_inW hM) hsf hargs).mono ?_
 rintro e w' ⟨v, u, S', rfl, hR, hle', hs, hf, hd, hr, hw⟩
 have hS2 : S.le (backS S' ρ M) := by
  intro k o hk
  by_cases h : rowAt ρ M k
  ·rw [(rowAt_off hM h).1] at hk; cases hk
  ·rw [backS_no h]; exact hle' k o (hle k o hk)
 have hS2' : ∀ k o, backS S' ρ M k = some o → S' k = some o := by
  intro k o hk
  by_cases h : rowAt ρ M k
  ·rw [backS_row h] at hk; cases hk
  ·rw [backS_no h] at hk; exact hk
 refine ⟨v, u, M, backS S' ρ M, ρ, rfl, hk u hR, hS2, Env.le_refl _, ⟨fun k o hk => hs k o (hS2' k o hk), fun k o hk => hf k o (keepF_le hM k o hk), fun k => ?_, hM.dom, fun ℓ B hB => ?_, hM.inj, hM.gl.mono hS2⟩, .p (flatB_ok (hfl u hR) hr), hw⟩
 ·cases hk2 : backS S' ρ M k with
  | none => exact .inl rfl
  | some o =>
   right
   rcases hd k with h | h
   ·rw [hS2' k o hk2] at h; cases h
   ·cases hk : F k with
    | none => rfl
    | some o' => rw [keepF_le hM k o' hk] at h; cases h
 ·obtain ⟨b, hb, hrB⟩ := hM.blk _ _ hB
  refine ⟨b, hb, hrB.keep hS2 (Env.le_refl _) fun hl => ?_⟩
  have hlt := hrB.lt hl
  obtain ⟨o, ho⟩ : ∃ o, w.heap[b.blk]? = some o := ⟨_, Array.getElem?_eq_getElem hlt⟩
  have hSb := (hrB.off hl).1
  by_cases hrow : rowAt ρ M b.blk
  ·have e1 : lendS S ρ M w b.blk = some o := by unfold lendS; rw [if_pos hrow]; exact ho
   refine ⟨by rw [hs _ o (hle' _ o e1), ho], ?_⟩
   rw [hSb, backS_row hrow]
  ·have hno : ¬ own ℓ := by
    rintro ⟨B', h1, h2⟩
    rw [hB] at h1
    cases h1
    exact hrow ⟨ℓ, B, b, hB, hb, h2, hl, rfl⟩
   have hk := keepF_live (F := F) (w := w) (own := own) hB hb hl hno
   refine ⟨by rw [hf b.blk o (hk.trans ho), ho], ?_⟩
   rw [hSb, backS_no hrow]
   rcases hd b.blk with h | h
   ·exact h
   ·rw [hk, ho] at h; cases h
theorem Spec.borrow {f : FuncId} {args : List AV} {R : AV → Prop} {K : AV → Mem → Prop} {n : Nat} (h : PSpec P f (args.map (borB M)) R) (hp : (args.map (borB M)).all (persN n) = true) (hfl : ∀ u, R u → flatB u = true) (hk : ∀ u, R u → K u M) : Spec P f args M K :=
 Spec.borrowG h (fun S F ρ w vs hM hv => persN_all hp (S := lendS S ρ M w) (ρ := ρ) ⟨by simpa using hv.1, fun i u hu => by
  rw [List.getElem?_map] at hu
  obtain ⟨u0, h0, rfl⟩ := Option.map_eq_some_iff.1 hu
  obtain ⟨v, hv1, hvr⟩ := hv.2 i u0 h0
  exact ⟨v, hv1, borB_ok hM hvr⟩⟩) hfl hk
theorem Sub.leak {D : List Nat} {fr fr' : List AV} {M' : Mem} (ℓ : Nat) {t : TypeId} {α : Type} {d : α} {enc : α → List AV} {l : List α} (hl : M ℓ = some (.row t d enc l))
  (h : Sub D (fr.map (swapRow ℓ (.sl d enc l))) (M.set ℓ (.gone d enc l)) fr' M') : Sub D fr M fr' M' := by
 rw [Sub_iff] at *
 intro S F ρ0 ρ a w h0 h1 hM hF
 obtain ⟨S1, b, hle, hb, hM1, _⟩ := hM.leak hl
 obtain ⟨S2, ρ2, k1, k2, k3, k4⟩ := h S1 F ρ0 ρ a w h0 h1 hM1 ⟨⟨by simpa using hF.1.1, fun i u hu => by
  rw [List.getElem?_map] at hu
  obtain ⟨u0, hu0, rfl⟩ := Option.map_eq_some_iff.1 hu
  obtain ⟨v, e, hr⟩ := hF.1.2 i u0 hu0
  exact ⟨v, e, swapRow_ok hM1 (Mem.set_eq _ _ _) (hr.mono hle (Env.le_refl _))⟩⟩, hF.2⟩
 exact ⟨S2, ρ2, Store.le_trans hle k1, k2, k3, k4⟩
end
theorem lI {p : Prop} (h : p := by simp only [List.length_cons, List.length_nil]; omega) : p := h
theorem nI {c k : Prop} (h' : k) (h : c := by first | omega | (dsimp only; omega)) : needK c k := needI h h'
theorem aI {c : Prop} {n : Int} {K : Int → Prop} (h' : K n) (hc : c := by exact trivial) (h : -9223372036854775808 ≤ n ∧ n ≤ 9223372036854775807 := by omega) : arithK c .i64 n K := arI hc h h'
theorem tI {p : Prop} {i : Decidable p} {k : Bool → Prop} (h' : k true) (h : p := by omega) : cmpK p i k := cmpT h h'
theorem fI {p : Prop} {i : Decidable p} {k : Bool → Prop} (h' : k false) (h : ¬ p := by omega) : cmpK p i k := cmpF h h'
theorem dI {P : Program} {tt : TT} {ops : List Oper} {fr : List AV} {M : Mem} {K : List AV → Mem → Prop} (h : opsK P tt (some .any) ops ops fr M K) (hB : drawB tt .any ops = true := by decide +kernel) : drawK P tt ops fr M K := drawI hB h
theorem dR {P : Program} {tt : TT} {ops : List Oper} {fr : List AV} {M : Mem} {K : List AV → Mem → Prop} (h : opsK P tt (some .rows) ops ops fr M K) (hB : drawB tt .rows ops = true := by decide +kernel) : drawK P tt ops fr M K := drawR hB h
theorem dP {P : Program} {tt : TT} {ops : List Oper} {fr : List AV} {M : Mem} {K : List AV → Mem → Prop} (h : opsK P tt (some .pers) ops ops fr M K) (hB : drawB tt .pers ops = true := by decide +kernel) : drawK P tt ops fr M K := drawP hB h
theorem pI {α β : Type} {enc : α → List AV} {l : List α} {enc' : β → List AV} {l' : List β} {bytes : Nat} {K : List α → Prop} (l'' : List α) (h : l''.map enc = l'.map enc') (hk : K l'')
  (hb : (l.length + l'.length) * bytes ≤ 140737488355328 := by first | omega | (dsimp only; omega) | (simp only [List.length_cons, List.length_nil, List.length_append]; omega)) : appK enc l enc' l' bytes K := appI l'' h hb hk
theorem dt {g k : Prop} (h' : k) (h : k → g := by first | exact fun h => nI h | exact fun h => aI h | exact fun h => tI h | exact fun h => fI h) : g := h h'
theorem at_ {g k : Prop} (h' : k) (h : k → g := by first | exact fun h => nI h | exact fun h => aI h | exact fun h => arU trivial (by omega) h | exact fun h => arB trivial (by omega) h | exact fun h => dI h | exact fun h => dR h | exact fun h => dP h | exact fun h => boxP rfl h | exact fun h => pI _ rfl h | exact fun h => rowSetI _ rfl h | exact fun h => tI h | exact fun h => fI h) : g := h h'
theorem oP {P : Program} {M : Mem} {f : FuncId} {args : List AV} {v : AV} {K : AV → Mem → Prop} (h : PSpec P f args (fun u => u = v)) (hk : K v M) (hp : args.all (persN 5) = true := by exact rfl) : Spec P f args M K :=
 Spec.of_pure (n := 5) h hp fun u hu => by subst hu; exact hk
theorem oC {P : Program} {f : FuncId} {args : List AV} {v : AV} {K : AV → Prop} (h : PSpec P f args (fun u => u = v)) (hk : K v) (hp : args.all (persN 5) = true := by exact rfl) : callP P f args K :=
 callPI 5 h hp ⟨_, rfl⟩ fun u hu => by subst hu; exact hk
theorem dC {P : Program} {M : Mem} {f : FuncId} {args : List AV} {p : Prop} {i : Decidable p} {K : AV → Mem → Prop} (h : PSpec P f args (fun u => u = .bool (@decide p i))) (ht : p → K (.bool true) M) (hf : ¬ p → K (.bool false) M) (hp : args.all (persN 5) = true := by exact rfl) : Spec P f args M K :=
 Spec.dcall (n := 5) h hp ht hf
theorem dD {P : Program} {f : FuncId} {args : List AV} {p : Prop} {i : Decidable p} {K : AV → Prop} (h : PSpec P f args (fun u => u = .bool (@decide p i))) (ht : p → K (.bool true)) (hf : ¬ p → K (.bool false)) (hp : args.all (persN 5) = true := by exact rfl) : callP P f args K :=
 callD 5 h hp ht hf
end Go.Proofs.YtnjggjhkfncnlaaGreatDoor
