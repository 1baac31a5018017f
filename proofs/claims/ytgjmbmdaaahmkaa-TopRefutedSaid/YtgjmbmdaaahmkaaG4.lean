import Derived.Test.YtgjmbmdaaahmkaaG3
import Derived.Scope
set_option linter.unusedVariables false
set_option linter.unusedSimpArgs false

/-
  Code, abstractly: what a walk asks of a whole body, up to its loops.
-/
namespace Go.Proofs.Ytgjmbmdaaahmkaa

inductive AEx
  | normal
  | exit (id : Nat)
  | ret
def absE : Exit → Option AEx
  | .normal => some .normal
  | .exit id => some (.exit id)
  | .ret => some .ret
  | _ => none
abbrev APost := AEx → List AV → Mem → Prop
def EnvIn (ρ : Env) (D : List Nat) : Prop := ∀ ℓ b, ρ ℓ = some b → ℓ ∈ D

/-- D: the labels that came in with the call: none of them is dropped or renamed -/
structure WPc (P : Program) (D : List Nat) (c : Code) (fr : List AV) (M : Mem) (Q : APost) : Prop where
  out : ∀ S F ρ0 ρ a w, EnvIn ρ0 D → Env.le ρ0 ρ → RepM S F ρ M w → RepF S ρ a fr → c.wp P (fun e a' w' => ∃ x, absE e = some x ∧ After S F ρ0 w (Q x) a' w') a w
theorem WPc_iff {P : Program} {D : List Nat} {c : Code} {fr : List AV} {M : Mem} {Q : APost} : WPc P D c fr M Q ↔ (∀ S F ρ0 ρ a w, EnvIn ρ0 D → Env.le ρ0 ρ → RepM S F ρ M w → RepF S ρ a fr → c.wp P (fun e a' w' => ∃ x, absE e = some x ∧ After S F ρ0 w (Q x) a' w') a w) := ⟨fun h => h.out, fun h => ⟨h⟩⟩
structure drawK (P : Program) (tt : TT) (ops : List Oper) (fr : List AV) (M : Mem) (K : List AV → Mem → Prop) : Prop where
  out : (∃ r, drawB tt r ops = true ∧ opsK P tt (some r) ops ops fr M K) ∨ (∃ r ds, drawB2 tt r ds ops = true ∧ opsK2 P tt r ds ops ops fr M K) ∨ ordsK P tt ops K ops.length [] fr M
theorem drawK_iff {P : Program} {tt : TT} {ops : List Oper} {fr : List AV} {M : Mem} {K : List AV → Mem → Prop} : drawK P tt ops fr M K ↔ ((∃ r, drawB tt r ops = true ∧ opsK P tt (some r) ops ops fr M K) ∨ (∃ r ds, drawB2 tt r ds ops = true ∧ opsK2 P tt r ds ops ops fr M K) ∨ ordsK P tt ops K ops.length [] fr M) := ⟨fun h => h.out, fun h => ⟨h⟩⟩
theorem drawI {P : Program} {tt : TT} {ops : List Oper} {fr : List AV} {M : Mem} {K : List AV → Mem → Prop} (hB : drawB tt .any ops = true) (h : opsK P tt (some .any) ops ops fr M K) : drawK P tt ops fr M K := by
  rw [drawK_iff]; exact .inl ⟨_, hB, h⟩
theorem drawR {P : Program} {tt : TT} {ops : List Oper} {fr : List AV} {M : Mem} {K : List AV → Mem → Prop} (hB : drawB tt .rows ops = true) (h : opsK P tt (some .rows) ops ops fr M K) : drawK P tt ops fr M K := by
  rw [drawK_iff]; exact .inl ⟨_, hB, h⟩
theorem drawF {P : Program} {tt : TT} {ops : List Oper} {fr : List AV} {M : Mem} {K : List AV → Mem → Prop} (hB : drawB tt .fresh ops = true) (h : opsK P tt (some .fresh) ops ops fr M K) : drawK P tt ops fr M K := by
  rw [drawK_iff]; exact .inl ⟨_, hB, h⟩
theorem drawG {P : Program} {tt : TT} {ops : List Oper} {fr : List AV} {M : Mem} {K : List AV → Mem → Prop} (hB : drawB tt .flat ops = true) (h : opsK P tt (some .flat) ops ops fr M K) : drawK P tt ops fr M K := by
  rw [drawK_iff]; exact .inl ⟨_, hB, h⟩
theorem drawO {P : Program} {tt : TT} {ops : List Oper} {fr : List AV} {M : Mem} {K : List AV → Mem → Prop} (hB : drawB tt .own ops = true) (h : opsK P tt (some .own) ops ops fr M K) : drawK P tt ops fr M K := by
  rw [drawK_iff]; exact .inl ⟨_, hB, h⟩
theorem drawX {P : Program} {tt : TT} {ops : List Oper} {fr : List AV} {M : Mem} {K : List AV → Mem → Prop} (as : List (Nat × Nat)) (hB : drawB tt (.boxes as) ops = true) (h : opsK P tt (some (.boxes as)) ops ops fr M K) : drawK P tt ops fr M K := by
  rw [drawK_iff]; exact .inl ⟨_, hB, h⟩
/-- calls at the slots ds write the call's own memory; the rest is walked by r -/
theorem drawN {P : Program} {tt : TT} {ops : List Oper} {fr : List AV} {M : Mem} {K : List AV → Mem → Prop} (r : DMode) (ds : List Nat) (hB : drawB2 tt r ds ops = true) (h : opsK2 P tt r ds ops ops fr M K) : drawK P tt ops fr M K := by
  rw [drawK_iff]; exact .inr (.inl ⟨_, _, hB, h⟩)
/-- every order is walked -/
theorem drawE {P : Program} {tt : TT} {ops : List Oper} {fr : List AV} {M : Mem} {K : List AV → Mem → Prop} (h : ordsK P tt ops K ops.length [] fr M) : drawK P tt ops fr M K := by
  rw [drawK_iff]; exact .inr (.inr h)
theorem drawP {P : Program} {tt : TT} {ops : List Oper} {fr : List AV} {M : Mem} {K : List AV → Mem → Prop} (hB : drawB tt .pers ops = true) (h : opsK P tt (some .pers) ops ops fr M K) : drawK P tt ops fr M K := by
  rw [drawK_iff]; exact .inl ⟨_, hB, h⟩

def codeK (P : Program) (tt : TT) (D : List Nat) : Code → List AV → Mem → APost → Prop
  | .skip, fr, M, Q => Q .normal fr M
  | .region _ ops draw, fr, M, Q => match draw with
    | false => opsK P tt none ops.toList ops.toList fr M (Q .normal)
    | true => drawK P tt ops.toList fr M (Q .normal)
  | .seq a b, fr, M, Q => codeK P tt D a fr M fun e fr' M' => match e with
    | .normal => codeK P tt D b fr' M' Q
    | .exit i => Q (.exit i) fr' M'
    | .ret => Q .ret fr' M'
  | .cond c x y, fr, M, Q => avK fr c fun u => match u with
    | .bool true => codeK P tt D x fr M Q
    | .bool false => codeK P tt D y fr M Q
    | _ => False
  | .block id c, fr, M, Q => codeK P tt D c fr M fun e fr' M' => match e with
    | .normal => Q .normal fr' M'
    | .exit i => match Nat.beq i id with
      | true => Q .normal fr' M'
      | false => Q (.exit i) fr' M'
    | .ret => Q .ret fr' M'
  | .exit id, fr, M, Q => Q (.exit id) fr M
  | .ret, fr, M, Q => Q .ret fr M
  | .loop c, fr, M, Q => WPc P D (.loop c) fr M Q
  | .rangeFunc f ps as c, fr, M, Q => WPc P D (.rangeFunc f ps as c) fr M Q
  | .scope c, fr, M, Q => codeK P tt D c fr M Q
  | .label _, fr, M, Q => Q .normal fr M
  | .goto l, fr, M, Q => WPc P D (.goto l) fr M Q
  | .refuse s, fr, M, Q => WPc P D (.refuse s) fr M Q

section
variable {P : Program} {tt : TT} {D : List Nat}

theorem WPc.mono {c : Code} {fr : List AV} {M : Mem} {Q Q' : APost} (h : WPc P D c fr M Q) (hq : ∀ e f M, Q e f M → Q' e f M) : WPc P D c fr M Q' := by
  simp only [WPc_iff] at *
  intro S F ρ0 ρ a w h0 h1 hM hF
  exact wp_mono (h S F ρ0 ρ a w h0 h1 hM hF) fun e a' w' ⟨x, hx, ha⟩ => ⟨x, hx, ha.mono fun f M => hq x f M⟩

theorem codeK_ok (hT : TOkB P tt = true) (hm : P.follows .mixedOrders = true) : ∀ (c : Code) (fr : List AV) (M : Mem) (Q : APost), codeK P tt D c fr M Q → WPc P D c fr M Q := by
  intro c
  induction c with
  | skip =>
    intro fr M Q h
    rw [WPc_iff]
    intro S F ρ0 ρ a w h0 h1 hM hF
    exact wp_skip ⟨.normal, rfl, fr, M, S, ρ, h, Store.le_refl _, h1, hM, hF, Wle.refl _⟩
  | region id ops draw =>
    intro fr M Q h
    rw [WPc_iff]
    intro S F ρ0 ρ a w h0 h1 hM hF
    simp only [codeK] at h
    have hQ : ∀ a' w', After S F ρ w (Q .normal) a' w' → ∃ x, absE .normal = some x ∧ After S F ρ0 w (Q x) a' w' := fun a' w' ⟨f, M', S', ρ', k, k1, k2, k3⟩ => ⟨.normal, rfl, f, M', S', ρ', k, k1, Env.le_trans h1 k2, k3⟩
    have e : ops = ops.toList.toArray := by simp
    cases draw with
    | false =>
      rw [e]
      exact wp_region_lit (opsK_ok hT ops.toList S ρ w a fr M h hM hF hQ)
    | true =>
      simp only at h
      rw [drawK_iff] at h
      rw [e]
      rcases h with ⟨r, h1, h2⟩ | ⟨r, ds, h1, h2⟩ | h2
      · exact draw_region hT hm h1 h2 hM hF hQ
      · exact draw_region2 hT hm h1 h2 hM hF hQ
      · exact draw_regionE hT hm h2 hM hF hQ
  | seq x y ihx ihy =>
    intro fr M Q h
    have hx := ihx fr M _ h
    simp only [WPc_iff] at *
    intro S F ρ0 ρ a w h0 h1 hM hF
    refine wp_seq (wp_mono (hx S F ρ0 ρ a w h0 h1 hM hF) ?_)
    rintro e a' w' ⟨ex, he, f, M', S', ρ', k, k1, k2, k3, k4, k5⟩
    cases e with
    | normal =>
      cases he
      refine wp_mono (ihy f M' Q k S' F ρ0 ρ' a' w' h0 k2 k3 k4) ?_
      rintro e2 a2 w2 ⟨ex2, he2, ha⟩
      exact ⟨ex2, he2, ha.trans k1 (Env.le_refl _) k5⟩
    | exit i => cases he; exact ⟨_, rfl, f, M', S', ρ', k, k1, k2, k3, k4, k5⟩
    | ret => cases he; exact ⟨_, rfl, f, M', S', ρ', k, k1, k2, k3, k4, k5⟩
    | goto l => cases he
    | panic l => cases he
    | outgrown => cases he
  | cond c x y ihx ihy =>
    intro fr M Q h
    simp only [codeK, avK_eq] at h
    rw [WPc_iff]
    intro S F ρ0 ρ a w h0 h1 hM hF
    have hc := hF.eval c
    split at h
    · rename_i hb
      rw [hb] at hc
      have := ihx fr M Q h
      rw [WPc_iff] at this
      exact wp_cond_true hc.bool_inv (this S F ρ0 ρ a w h0 h1 hM hF)
    · rename_i hb
      rw [hb] at hc
      have := ihy fr M Q h
      rw [WPc_iff] at this
      exact wp_cond_false hc.bool_inv (this S F ρ0 ρ a w h0 h1 hM hF)
    · exact h.elim
  | block id c ih =>
    intro fr M Q h
    have hx := ih fr M _ h
    simp only [WPc_iff] at *
    intro S F ρ0 ρ a w h0 h1 hM hF
    refine wp_block (wp_mono (hx S F ρ0 ρ a w h0 h1 hM hF) ?_)
    rintro e a' w' ⟨ex, he, f, M', S', ρ', k, k1, k2, k3, k4, k5⟩
    cases e with
    | normal => cases he; exact ⟨_, rfl, f, M', S', ρ', k, k1, k2, k3, k4, k5⟩
    | exit i =>
      cases he
      simp only [Exit.inBlock]
      simp only at k
      split at k
      · rename_i hb
        rw [if_pos (Nat.eq_of_beq_eq_true hb)]
        exact ⟨_, rfl, f, M', S', ρ', k, k1, k2, k3, k4, k5⟩
      · rename_i hb
        rw [if_neg (fun e => by subst e; simp at hb)]
        exact ⟨_, rfl, f, M', S', ρ', k, k1, k2, k3, k4, k5⟩
    | ret => cases he; exact ⟨_, rfl, f, M', S', ρ', k, k1, k2, k3, k4, k5⟩
    | goto l => cases he
    | panic l => cases he
    | outgrown => cases he
  | exit id =>
    intro fr M Q h
    rw [WPc_iff]
    intro S F ρ0 ρ a w h0 h1 hM hF
    exact wp_exit ⟨_, rfl, fr, M, S, ρ, h, Store.le_refl _, h1, hM, hF, Wle.refl _⟩
  | ret =>
    intro fr M Q h
    rw [WPc_iff]
    intro S F ρ0 ρ a w h0 h1 hM hF
    exact wp_ret ⟨_, rfl, fr, M, S, ρ, h, Store.le_refl _, h1, hM, hF, Wle.refl _⟩
  | loop c _ => intro fr M Q h; exact h
  | rangeFunc f ps as c _ _ => intro fr M Q h; exact h
  | scope c ih =>
    intro fr M Q h
    have h2 := ih fr M Q h
    rw [WPc_iff] at h2 ⊢
    intro S F ρ0 ρ a w h0 h1 hM hF
    refine wp_scope_straight (wp_mono (h2 S F ρ0 ρ a w h0 h1 hM hF) ?_)
    rintro e a' w' ⟨x, hx, ha⟩
    cases e with
    | goto l => cases hx
    | normal => exact ⟨x, hx, ha⟩
    | exit i => exact ⟨x, hx, ha⟩
    | ret => exact ⟨x, hx, ha⟩
    | panic l => cases hx
    | outgrown => cases hx
  | label l =>
    intro fr M Q h
    rw [WPc_iff]
    intro S F ρ0 ρ a w h0 h1 hM hF
    exact wp_label ⟨.normal, rfl, fr, M, S, ρ, h, Store.le_refl _, h1, hM, hF, Wle.refl _⟩
  | goto l => intro fr M Q h; exact h
  | refuse s => intro fr M Q h; exact h

/-- a state may be told with less, or by other labels -/
structure Sub (D : List Nat) (fr : List AV) (M : Mem) (fr' : List AV) (M' : Mem) : Prop where
  out : ∀ S F ρ0 ρ a w, EnvIn ρ0 D → Env.le ρ0 ρ → RepM S F ρ M w → RepF S ρ a fr → ∃ S' ρ', S.le S' ∧ Env.le ρ0 ρ' ∧ RepM S' F ρ' M' w ∧ RepF S' ρ' a fr'
theorem Sub_iff {D : List Nat} {fr : List AV} {M : Mem} {fr' : List AV} {M' : Mem} : Sub D fr M fr' M' ↔ (∀ S F ρ0 ρ a w, EnvIn ρ0 D → Env.le ρ0 ρ → RepM S F ρ M w → RepF S ρ a fr → ∃ S' ρ', S.le S' ∧ Env.le ρ0 ρ' ∧ RepM S' F ρ' M' w ∧ RepF S' ρ' a fr') := ⟨fun h => h.out, fun h => ⟨h⟩⟩

theorem WPc.sub {c : Code} {fr fr' : List AV} {M M' : Mem} {Q : APost} (hs : Sub D fr M fr' M') (h : WPc P D c fr' M' Q) : WPc P D c fr M Q := by
  simp only [WPc_iff, Sub_iff] at *
  intro S F ρ0 ρ a w h0 h1 hM hF
  obtain ⟨S', ρ', k1, k2, k3, k4⟩ := hs S F ρ0 ρ a w h0 h1 hM hF
  refine wp_mono (h S' F ρ0 ρ' a w h0 k2 k3 k4) ?_
  rintro e a' w' ⟨x, hx, ha⟩
  exact ⟨x, hx, ha.trans k1 (Env.le_refl _) (Wle.refl _)⟩

def loopPost {X : Type _} (D : List Nat) (I : X → Prop) (frI : X → List AV) (MI : X → Mem) (μ : X → Nat) (x : X) (Q : APost) : APost := fun e fr M => match e with
  | .normal => ∃ x', Sub D fr M (frI x') (MI x') ∧ I x' ∧ μ x' < μ x
  | .exit i => Q (.exit i) fr M
  | .ret => Q .ret fr M

/-- a loop: the states at its head are frI x, MI x -/
theorem WPc.loop {c : Code} {fr : List AV} {M : Mem} {Q : APost} {X : Type _} (I : X → Prop) (frI : X → List AV) (MI : X → Mem) (μ : X → Nat) (x0 : X) (hi : I x0) (h0 : Sub D fr M (frI x0) (MI x0))
    (h : ∀ x, I x → WPc P D c (frI x) (MI x) (loopPost D I frI MI μ x Q)) : WPc P D (.loop c) fr M Q := by
  refine WPc.sub h0 ?_
  rw [WPc_iff]
  intro S F ρ0 ρ a w hin h1 hM hF
  -- the invariant speaks of some x; its measure is a number that the state bears
  have key : ∀ (n : Nat) (x : X) (S1 : Store) (ρ1 : Env) (a1 : Act) (w1 : World), μ x = n → I x → S.le S1 → Wle w w1 → Env.le ρ0 ρ1 → RepM S1 F ρ1 (MI x) w1 → RepF S1 ρ1 a1 (frI x) →
      ∀ b k cs, ∃ e a' w', (∃ x, absE e = some x ∧ After S F ρ0 w (Q x) a' w') ∧ Arrives P (lone (b.at a1 (.code c :: .inLoop c :: k)) cs w1) b k cs e a' w' := by
    intro n
    induction n using Nat.strongRecOn with
    | _ n ih =>
      intro x S1 ρ1 a1 w1 hn hIx hS hw hρ hM1 hF1 b k cs
      have hx := h x hIx
      rw [WPc_iff] at hx
      obtain ⟨e, a2, w2, ⟨ex, he, f, M', S2, ρ2, kk, k1, k2, k3, k4, k5⟩, harr⟩ := hx S1 F ρ0 ρ1 a1 w1 hin hρ hM1 hF1 b (.inLoop c :: k) cs
      cases e with
      | normal =>
        cases he
        obtain ⟨x', hsub, hIx', hlt⟩ := kk
        rw [Sub_iff] at hsub
        obtain ⟨S3, ρ3, j1, j2, j3, j4⟩ := hsub S2 F ρ0 ρ2 a2 w2 hin k2 k3 k4
        obtain ⟨e3, a3, w3, hq, harr3⟩ := ih (μ x') (hn ▸ hlt) x' S3 ρ3 a2 w2 rfl hIx' (Store.le_trans hS (Store.le_trans k1 j1)) (hw.trans k5) j2 j3 j4 b k cs
        exact ⟨e3, a3, w3, hq, .of_steps (Steps.trans harr (.one step_inLoop)) harr3⟩
      | exit i => cases he; exact ⟨_, a2, w2, ⟨_, rfl, f, M', S2, ρ2, kk, Store.le_trans hS k1, k2, k3, k4, hw.trans k5⟩, .pass (x := .inLoop c) rfl (fun _ _ => .inl (by simp)) harr⟩
      | ret => cases he; exact ⟨_, a2, w2, ⟨_, rfl, f, M', S2, ρ2, kk, Store.le_trans hS k1, k2, k3, k4, hw.trans k5⟩, .pass (x := .inLoop c) rfl (fun _ _ => .inl (by simp)) harr⟩
      | goto l => cases he
      | panic l => cases he
      | outgrown => cases he
  intro b k cs
  obtain ⟨e, a', w', hq, harr⟩ := key _ x0 S ρ a w rfl hi (Store.le_refl _) (Wle.refl _) h1 hM hF b k cs
  exact ⟨e, a', w', hq, .of_steps (.one step_loop) harr⟩

def loopPost2 {X Y : Type _} (D : List Nat) (I : X → Y → Prop) (frI : X → Y → List AV) (MI : X → Y → Mem) (μ : X → Y → Nat) (x : X) (y : Y) (Q : APost) : APost := fun e fr M => match e with
  | .normal => ∃ x' y', Sub D fr M (frI x' y') (MI x' y') ∧ I x' y' ∧ μ x' y' < μ x y
  | .exit i => Q (.exit i) fr M
  | .ret => Q .ret fr M
theorem WPc.loop2 {c : Code} {fr : List AV} {M : Mem} {Q : APost} {X Y : Type _} (I : X → Y → Prop) (frI : X → Y → List AV) (MI : X → Y → Mem) (μ : X → Y → Nat) (x0 : X) (y0 : Y) (hi : I x0 y0) (h0 : Sub D fr M (frI x0 y0) (MI x0 y0))
    (h : ∀ x y, I x y → WPc P D c (frI x y) (MI x y) (loopPost2 D I frI MI μ x y Q)) : WPc P D (.loop c) fr M Q :=
  WPc.loop (X := X × Y) (fun z => I z.1 z.2) (fun z => frI z.1 z.2) (fun z => MI z.1 z.2) (fun z => μ z.1 z.2) (x0, y0) hi h0 fun z hz => (h z.1 z.2 hz).mono fun e f M hh => by
    cases e with
    | normal => obtain ⟨x', y', a, b, c⟩ := hh; exact ⟨(x', y'), a, b, c⟩
    | exit i => exact hh
    | ret => exact hh
def loopPost3 {X Y Z : Type _} (D : List Nat) (I : X → Y → Z → Prop) (frI : X → Y → Z → List AV) (MI : X → Y → Z → Mem) (μ : X → Y → Z → Nat) (x : X) (y : Y) (z : Z) (Q : APost) : APost := fun e fr M => match e with
  | .normal => ∃ x' y' z', Sub D fr M (frI x' y' z') (MI x' y' z') ∧ I x' y' z' ∧ μ x' y' z' < μ x y z
  | .exit i => Q (.exit i) fr M
  | .ret => Q .ret fr M
theorem WPc.loop3 {c : Code} {fr : List AV} {M : Mem} {Q : APost} {X Y Z : Type _} (I : X → Y → Z → Prop) (frI : X → Y → Z → List AV) (MI : X → Y → Z → Mem) (μ : X → Y → Z → Nat) (x0 : X) (y0 : Y) (z0 : Z) (hi : I x0 y0 z0) (h0 : Sub D fr M (frI x0 y0 z0) (MI x0 y0 z0))
    (h : ∀ x y z, I x y z → WPc P D c (frI x y z) (MI x y z) (loopPost3 D I frI MI μ x y z Q)) : WPc P D (.loop c) fr M Q :=
  WPc.loop (X := X × Y × Z) (fun z => I z.1 z.2.1 z.2.2) (fun z => frI z.1 z.2.1 z.2.2) (fun z => MI z.1 z.2.1 z.2.2) (fun z => μ z.1 z.2.1 z.2.2) (x0, y0, z0) hi h0 fun z hz => (h z.1 z.2.1 z.2.2 hz).mono fun e f M hh => by
    cases e with
    | normal => obtain ⟨x', y', z', a, b, c⟩ := hh; exact ⟨(x', y', z'), a, b, c⟩
    | exit i => exact hh
    | ret => exact hh

end
end Go.Proofs.Ytgjmbmdaaahmkaa


/-
  Telling a state with less, or by other labels: what there is to show, computed.
-/
namespace Go.Proofs.Ytgjmbmdaaahmkaa
section
theorem Sub.by_ {D : List Nat} {fr fr' : List AV} {M : Mem} (lm : LMap) (L : List (Nat × Blk)) (n : Nat) (hs : (keysB lm L && oldsL L lm && keepB lm D) = true) (hm : memR lm n M L) (hf : avRs lm n fr fr') : Sub D fr M fr' (Mem.ofL L) := by
  rw [Sub_iff]
  intro S F ρ0 ρ a w h0 h1 hM hF
  rw [Bool.and_eq_true, Bool.and_eq_true] at hs
  refine ⟨S, lmEnv lm ρ, Store.le_refl _, fun ℓ b hb => ?_, hM.relabel hm hs.1.1 hs.1.2, (avR_ok n).2 fr fr' _ hf hF.1, hF.2⟩
  have := List.all_eq_true.1 hs.2 ℓ (h0 ℓ b hb)
  unfold lmEnv
  cases hf : lmFind lm ℓ with
  | none => rw [hf] at this; cases this
  | some x =>
    rw [hf] at this
    cases x with
    | old m =>
      simp only at this ⊢
      rw [Nat.eq_of_beq_eq_true this]
      exact h1 ℓ b hb
    | nil _ => cases this
end

end Go.Proofs.Ytgjmbmdaaahmkaa


/-
  Entering a function, leaving it, and calling one that hands out or takes blocks by label.
-/
namespace Go.Proofs.Ytgjmbmdaaahmkaa

def pad0 : Nat → (List AV → Prop) → Prop
  | 0, k => k []
  | n + 1, k => pad0 n fun l => k (.tup [] :: l)
theorem pad0_eq : ∀ (n : Nat) (k : List AV → Prop), pad0 n k = k (List.replicate n (.tup []))
  | 0, k => rfl
  | n + 1, k => by rw [pad0, pad0_eq n]; rfl
def padK : List AV → Nat → (List AV → Prop) → Prop
  | [], n, k => pad0 n k
  | u :: us, n, k => padK us n fun l => k (u :: l)
theorem padK_eq : ∀ (us : List AV) (n : Nat) (k : List AV → Prop), padK us n k = k (us ++ List.replicate n (.tup []))
  | [], n, k => by rw [padK, pad0_eq]; rfl
  | u :: us, n, k => by rw [padK, padK_eq us n]; rfl

def resSem (tmps : Array Value) : ResultVar → Sem Value
  | .tmp t => pure (tmps.getD t undef)
  | .cell x t => do loadVar t (← asAddr (tmps.getD x undef))
def resK (tt : TT) (fr : List AV) (M : Mem) : List ResultVar → (List AV → Prop) → Prop
  | [], k => k []
  | r :: rs, k => match r with
    | .tmp t => getK fr t fun u => resK tt fr M rs fun us => k (u :: us)
    | .cell a t => getK fr a fun p => rsK (evLoad tt t M p) fun u => resK tt fr M rs fun us => k (u :: us)
def tupOf : List AV → AV
  | [u] => u
  | us => .tup us
/-- rows among the results become known for good -/
def leakR : List AV → Mem → (List AV → Mem → Prop) → Prop
  | [], M, K => K [] M
  | u :: us, M, K => match u with
    | .agg cs => leakK cs M fun cs' M' => leakR us M' fun us' M'' => K (.agg cs' :: us') M''
    | .ptr ℓ 0 => match M ℓ with
      | some (.box _ cells) => match allPers cells with
        | true => leakR us (M.set ℓ .dead) fun us' M'' => K (.pd cells :: us') M''
        | false => leakR us M fun us' M'' => K (.ptr ℓ 0 :: us') M''
      | _ => leakR us M fun us' M'' => K (.ptr ℓ 0 :: us') M''
    | u => leakK [u] M fun x M' => leakR us M' fun us' M'' => K (x ++ us') M''

section
variable {S F : Store} {ρ : Env} {M : Mem} {w : World} {P : Program} {tt : TT}

theorem resK_ok (hT : TOkB P tt = true) (hM : RepM S F ρ M w) {a : Act} {fr : List AV} (hF : RepF S ρ a fr) : ∀ (rs : List ResultVar) (k : List AV → Prop), resK tt fr M rs k →
    ∃ vs us, k us ∧ RVs S ρ vs us ∧ vs.length = rs.length ∧ (rs.mapM (resSem a.tmps)).run P w = .ok vs w
  | [], k, h => ⟨[], [], h, RVs.nil _ _, rfl, by simp⟩
  | r :: rs, k, h => by
    cases r with
    | tmp t =>
      simp only [resK, getK_eq] at h
      obtain ⟨vs, us, hk, hv, hl, hr⟩ := resK_ok hT hM hF rs _ h
      exact ⟨a.tmps.getD t undef :: vs, _, hk, RVs.cons (hF.eval (.tmp t)) hv, by simp [hl], by simp [List.mapM_cons, hr, resSem]⟩
    | cell x t =>
      simp only [resK, getK_eq] at h
      have hx := hF.eval (.tmp x)
      obtain ⟨v, u, he, hv, h⟩ := rsK_ok h (evLoad_ok (t := t) hT hM hx).next
      obtain ⟨vs, us, hk, hvs, hl, hr⟩ := resK_ok hT hM hF rs _ h
      have he' : (Instr.loadAt t (a.eval (.tmp x))).run P w = .ok v w := by
        simp only [Sem.run_bind] at he
        cases hq : (Instr.loadAt t (a.eval (.tmp x))).run P w with
        | ok y w' => rw [hq] at he; simp at he; rw [he.1, he.2]
        | halt y w' => rw [hq] at he; simp at he
      have he2 : (resSem a.tmps (.cell x t)).run P w = .ok v w := by
        unfold resSem
        have : a.eval (.tmp x) = a.tmps.getD x undef := rfl
        rw [this] at he'
        show (do loadVar t (← asAddr (a.tmps.getD x undef)) : Sem Value).run P w = .ok v w
        generalize a.tmps.getD x undef = y at he' ⊢
        unfold Instr.loadAt Instr.sureAddr at he'
        cases y with
        | pointer ad =>
          cases ad with
          | some ad => simpa [asAddr] using he'
          | none => simp at he'
        | _ => simp at he'
      exact ⟨v :: vs, _, hk, RVs.cons hv hvs, by simp [hl], by simp [List.mapM_cons, he2, hr]⟩

theorem leakR_ok : ∀ (us : List AV) (vs : List Value) (S : Store) (M : Mem) (K : List AV → Mem → Prop), leakR us M K → RVs S ρ vs us → RepM S F ρ M w →
    ∃ us' M' S', K us' M' ∧ S.le S' ∧ RVs S' ρ vs us' ∧ RepM S' F ρ M' w
  | [], vs, S, M, K, h, hv, hM => ⟨[], M, S, h, Store.le_refl _, hv, hM⟩
  | u :: us, vs, S, M, K, h, hv, hM => by
    obtain ⟨x, xs, rfl, hx, hxs⟩ := hv.cons_inv
    simp only [leakR] at h
    split at h
    · rename_i cs
      obtain ⟨ys, rfl, hys⟩ := hx.agg_inv
      obtain ⟨cs', M1, S1, h, hle, hc, hM1, _⟩ := leakK_ok _ _ _ _ _ h hys hM
      obtain ⟨us', M', S', hK, hle', hvs', hM'⟩ := leakR_ok us xs S1 M1 _ h (hxs.mono hle (Env.le_refl _)) hM1
      refine ⟨_, M', S', hK, Store.le_trans hle hle', RVs.cons ?_ hvs', hM'⟩
      have := RV.agg_mk (hc.mono hle' (Env.le_refl _))
      simpa using this
    · split at h
      · rename_i hl
        split at h
        · rename_i hp
          obtain ⟨S1, b, hle, hb, hM1, hr⟩ := hM.leakBox hl (fun j u v hu hv => by
            have ho : persA u = true := by
              have : ∀ (l : List AV), allPers l = true → ∀ u ∈ l, persA u = true := by
                intro l
                induction l with
                | nil => intro _ u hu; cases hu
                | cons a l ih =>
                  intro hp u hu
                  simp only [allPers] at hp
                  split at hp
                  · rename_i ha
                    rcases List.mem_cons.1 hu with rfl | hu
                    · exact ha
                    · exact ih hp u hu
                  · simp at hp
              exact this _ hp u (List.mem_of_getElem? hu)
            exact (persA_ok ho hv).1)
          obtain ⟨us', M', S', hK, hle', hvs', hM'⟩ := leakR_ok us xs S1 _ _ h (hxs.mono hle (Env.le_refl _)) hM1
          obtain ⟨b', hb', rfl⟩ := hx.ptr_inv
          rw [hb] at hb'; cases hb'
          exact ⟨_, M', S', hK, Store.le_trans hle hle', RVs.cons (.p (hr.mono hle')) hvs', hM'⟩
        · obtain ⟨us', M', S', hK, hle', hvs', hM'⟩ := leakR_ok us xs S M _ h hxs hM
          exact ⟨_, M', S', hK, hle', RVs.cons (hx.mono hle' (Env.le_refl _)) hvs', hM'⟩
      · obtain ⟨us', M', S', hK, hle', hvs', hM'⟩ := leakR_ok us xs S M _ h hxs hM
        exact ⟨_, M', S', hK, hle', RVs.cons (hx.mono hle' (Env.le_refl _)) hvs', hM'⟩
    · obtain ⟨y, M1, S1, h, hle, hc, hM1, _⟩ := leakK_ok _ [x] _ _ _ h (RVs.cons hx (RVs.nil _ _)) hM
      obtain ⟨us', M', S', hK, hle', hvs', hM'⟩ := leakR_ok us xs S1 M1 _ h (hxs.mono hle (Env.le_refl _)) hM1
      exact ⟨_, M', S', hK, Store.le_trans hle hle', (hc.mono hle' (Env.le_refl _)).append hvs', hM'⟩

theorem tupOf_ok {vs : List Value} {us : List AV} (hv : RVs S ρ vs us) : RV S ρ (if h : vs.length = 1 then vs[0] else .tuple vs.toArray) (tupOf us) := by
  cases us with
  | nil => rw [hv.nil_inv]; simpa [tupOf] using RV.tup_mk (RVs.nil S ρ)
  | cons u us =>
    obtain ⟨x, xs, rfl, hx, hxs⟩ := hv.cons_inv
    cases us with
    | nil => have := hxs.nil_inv; subst this; simpa [tupOf] using hx
    | cons u2 us =>
      obtain ⟨x2, xs2, rfl, _, _⟩ := hxs.cons_inv
      simpa [tupOf] using RV.tup_mk hv

/-- what a function's end asks -/
def endK (tt : TT) (rs : List ResultVar) (R : AV → Mem → Prop) : APost := fun e fr M => match e with
  | .normal => resK tt fr M rs fun us => R (tupOf us) M
  | .ret => resK tt fr M rs fun us => R (tupOf us) M
  | .exit _ => False
/-- so, and rows among the results become known for good -/
def endL (tt : TT) (rs : List ResultVar) (R : AV → Mem → Prop) : APost := fun e fr M => match e with
  | .normal => resK tt fr M rs fun us => leakR us M fun us' M' => R (tupOf us') M'
  | .ret => resK tt fr M rs fun us => leakR us M fun us' M' => R (tupOf us') M'
  | .exit _ => False
def endP (tt : TT) (rs : List ResultVar) (R : AV → Prop) : APost := fun e fr M => match e with
  | .normal => resK tt fr M rs fun us => leakR us M fun us' _ => R (tupOf us') ∧ persN 5 (tupOf us') = true
  | .ret => resK tt fr M rs fun us => leakR us M fun us' _ => R (tupOf us') ∧ persN 5 (tupOf us') = true
  | .exit _ => False

theorem run_results {fn : Func} {tmps : Array Value} {vs : List Value} (h : (fn.results.toList.mapM (resSem tmps)).run P w = .ok vs w) : (results fn tmps).run P w = .ok (if h : vs.length = 1 then vs[0] else .tuple vs.toArray) w := by
  have e : results fn tmps = (do
      let vs ← fn.results.mapM (resSem tmps)
      pure (if h : vs.size = 1 then vs[0] else .tuple vs)) := by
    unfold results
    congr 2
  rw [e, Array.mapM_eq_mapM_toList]
  simp only [Sem.run_bind, Sem.run_map, h, Result.andThen_ok, Sem.run_pure]
  congr 1

theorem spec_core {f : FuncId} {fn : Func} {c : Code} {args : List AV} {D : List Nat} (hf : P.funcs[f]? = some fn) (hb : fn.body = some c) {Q : APost}
    (hw : padK args (fn.ntmps - args.length) fun fr => WPc P D c fr M Q) {ρ0 : Env} (hD : EnvIn ρ0 D) {vs : List Value} (hM : RepM S F ρ0 M w) (hv : RVs S ρ0 vs args) {R : Ending → World → Prop}
    (hR : ∀ (e : AEx) a' w', After S F ρ0 w (Q e) a' w' → a'.defers = [] → (∀ i, e ≠ .exit i) ∧ ∃ v, (results fn a'.tmps).run P w' = .ok v w' ∧ R (.returned v) w') : Calls P f vs.toArray w R := by
  rw [padK_eq] at hw
  rw [WPc_iff] at hw
  refine calls_of_wp hf hb ?_
  have hlen := hv.1
  have hF : RepF S ρ0 { tmps := vs.toArray ++ Array.replicate (fn.ntmps - vs.toArray.size) undef, defers := [] } (args ++ List.replicate (fn.ntmps - args.length) (.tup [])) := by
    refine ⟨?_, rfl⟩
    have e : (vs.toArray ++ Array.replicate (fn.ntmps - vs.toArray.size) undef).toList = vs ++ List.replicate (fn.ntmps - args.length) undef := by simp [hlen]
    rw [e]
    refine hv.append ⟨by simp, fun i u hu => ?_⟩
    have hi := (List.getElem?_eq_some_iff.1 hu).1
    simp only [List.length_replicate] at hi
    have hu' : u = .tup [] := by
      rw [List.getElem?_replicate] at hu
      simp [hi] at hu
      exact hu.symm
    subst hu'
    exact ⟨undef, by simp [hi], RV.tup_mk (RVs.nil _ _)⟩
  refine wp_mono (hw S F ρ0 ρ0 _ w hD (Env.le_refl _) hM hF) ?_
  rintro e a' w' ⟨x, hx, ha⟩
  have hd : a'.defers = [] := by obtain ⟨_, _, _, _, _, _, _, _, hF', _⟩ := ha; exact hF'.2
  obtain ⟨h1, v, h2, h3⟩ := hR x a' w' ha hd
  cases e with
  | normal => exact ⟨hd, v, h2, h3⟩
  | ret => exact ⟨hd, v, h2, h3⟩
  | exit i => cases hx; exact absurd rfl (h1 i)
  | goto l => cases hx
  | panic l => cases hx
  | outgrown => cases hx

theorem plain_of {f : FuncId} {fn : Func} {c : Code} (hf : P.funcs[f]? = some fn) (hb : fn.body = some c) (hn : (fn.name == "runtime.NumGoroutine") = false) : Plain P f := ⟨fn, hf, hn, by rw [hb]; rfl⟩

/-- a contract, by the walk of the body -/
theorem Spec.intro (hT : TOkB P tt = true) (hm : P.follows .mixedOrders = true) {f : FuncId} {fn : Func} {c : Code} {args : List AV} (L : List (Nat × Blk)) {R : AV → Mem → Prop} (hf : P.funcs[f]? = some fn) (hb : fn.body = some c) (hn : (fn.name == "runtime.NumGoroutine") = false)
    (h : padK args (fn.ntmps - args.length) fun fr => codeK P tt (L.map (·.1)) c fr (Mem.ofL L) (endK tt fn.results.toList R)) : Spec P f args (Mem.ofL L) R := by
  rw [Spec_iff]
  refine ⟨plain_of hf hb hn, fun S F ρ vs w hM hv => ?_⟩
  have hD : EnvIn ρ (L.map (·.1)) := fun ℓ b hb => by
    have := hM.dom ℓ b hb
    cases hB : Mem.ofL L ℓ with
    | none => exact absurd hB this
    | some B => exact List.mem_map_of_mem (f := (·.1)) (ofL_mem hB)
  refine spec_core (D := L.map (·.1)) (Q := endK tt fn.results.toList R) hf hb ?_ hD hM hv fun e a' w' ha hd => ?_
  · rw [padK_eq] at h ⊢; exact codeK_ok hT hm c _ _ _ h
  · obtain ⟨fr, M', S', ρ', hk, h1, h2, h3, h4, h5⟩ := ha
    have fin : resK tt fr M' fn.results.toList (fun us => R (tupOf us) M') → ∃ v, (results fn a'.tmps).run P w' = .ok v w' ∧ CallPost S F ρ w R (.returned v) w' := by
      intro hk
      obtain ⟨vs', us, hK, hvs, hl, hr⟩ := resK_ok hT h3 h4 _ _ hk
      exact ⟨_, run_results hr, _, _, M', S', ρ', rfl, hK, h1, h2, h3, tupOf_ok hvs, h5⟩
    cases e with
    | normal => exact ⟨by simp, fin hk⟩
    | ret => exact ⟨by simp, fin hk⟩
    | exit i => exact hk.elim

/-- so, where rows among the results become known for good -/
theorem Spec.introL (hT : TOkB P tt = true) (hm : P.follows .mixedOrders = true) {f : FuncId} {fn : Func} {c : Code} {args : List AV} (L : List (Nat × Blk)) {R : AV → Mem → Prop} (hf : P.funcs[f]? = some fn) (hb : fn.body = some c) (hn : (fn.name == "runtime.NumGoroutine") = false)
    (h : padK args (fn.ntmps - args.length) fun fr => codeK P tt (L.map (·.1)) c fr (Mem.ofL L) (endL tt fn.results.toList R)) : Spec P f args (Mem.ofL L) R := by
  rw [Spec_iff]
  refine ⟨plain_of hf hb hn, fun S F ρ vs w hM hv => ?_⟩
  have hD : EnvIn ρ (L.map (·.1)) := fun ℓ b hb => by
    have := hM.dom ℓ b hb
    cases hB : Mem.ofL L ℓ with
    | none => exact absurd hB this
    | some B => exact List.mem_map_of_mem (f := (·.1)) (ofL_mem hB)
  refine spec_core (D := L.map (·.1)) (Q := endL tt fn.results.toList R) hf hb ?_ hD hM hv fun e a' w' ha hd => ?_
  · rw [padK_eq] at h ⊢; exact codeK_ok hT hm c _ _ _ h
  · obtain ⟨fr, M', S', ρ', hk, h1, h2, h3, h4, h5⟩ := ha
    have fin : (resK tt fr M' fn.results.toList fun us => leakR us M' fun us' M'' => R (tupOf us') M'') → ∃ v, (results fn a'.tmps).run P w' = .ok v w' ∧ CallPost S F ρ w R (.returned v) w' := by
      intro hk
      obtain ⟨vs', us, hK, hvs, hl, hr⟩ := resK_ok hT h3 h4 _ _ hk
      obtain ⟨us', M2, S2, hR, hle, hvs2, hM2⟩ := leakR_ok _ _ _ _ _ hK hvs h3
      exact ⟨_, run_results hr, _, _, M2, S2, ρ', rfl, hR, Store.le_trans h1 hle, h2, hM2, tupOf_ok hvs2, h5⟩
    cases e with
    | normal => exact ⟨by simp, fin hk⟩
    | ret => exact ⟨by simp, fin hk⟩
    | exit i => exact hk.elim

theorem PSpec.intro (hT : TOkB P tt = true) (hm : P.follows .mixedOrders = true) {f : FuncId} {fn : Func} {c : Code} {args : List AV} {R : AV → Prop} (hf : P.funcs[f]? = some fn) (hb : fn.body = some c) (hn : (fn.name == "runtime.NumGoroutine") = false)
    (h : padK args (fn.ntmps - args.length) fun fr => codeK P tt [] c fr Mem.none (endP tt fn.results.toList R)) : PSpec P f args R := by
  rw [PSpec_iff]
  refine ⟨plain_of hf hb hn, fun S F vs w hg hs hfr hd hv => ?_⟩
  refine spec_core (M := Mem.none) (ρ0 := fun _ => none) (D := []) (Q := endP tt fn.results.toList R) hf hb ?_ (fun ℓ b hb => by cases hb) ⟨hs, hfr, hd, by simp, by simp [Mem.none], by simp, hg⟩ (hv.rv _) fun e a' w' ha hd' => ?_
  · rw [padK_eq] at h ⊢; exact codeK_ok hT hm c _ _ _ h
  · obtain ⟨fr, M', S', ρ', hk, h1, h2, h3, h4, h5⟩ := ha
    have fin : (resK tt fr M' fn.results.toList fun us => leakR us M' fun us' _ => R (tupOf us') ∧ persN 5 (tupOf us') = true) → ∃ v, (results fn a'.tmps).run P w' = .ok v w' ∧ PurePost S F w R (.returned v) w' := by
      intro hk
      obtain ⟨vs', us, hK, hvs, hl, hr⟩ := resK_ok hT h3 h4 _ _ hk
      obtain ⟨us', M2, S2, ⟨hR, hp⟩, hle, hvs2, hM2⟩ := leakR_ok _ _ _ _ _ hK hvs h3
      exact ⟨_, run_results hr, _, _, S2, rfl, hR, Store.le_trans h1 hle, hM2.sw, hM2.fw, hM2.sf, persN_ok 5 hp (tupOf_ok hvs2), h5⟩
    cases e with
    | normal => exact ⟨by simp, fin hk⟩
    | ret => exact ⟨by simp, fin hk⟩
    | exit i => exact hk.elim
/-- .. where rows of no elements are told as what they are -/
theorem PSpec.introZ (ti : TypeId) (hT : TOkB P tt = true) (hm : P.follows .mixedOrders = true) {f : FuncId} {fn : Func} {c : Code} {args : List AV} {R : AV → Prop} (hf : P.funcs[f]? = some fn) (hb : fn.body = some c) (hn : (fn.name == "runtime.NumGoroutine") = false)
    (h : padK args (fn.ntmps - args.length) fun fr => codeK P tt [9998] c fr (Mem.ofL [(9998, .row ti (0 : Int) encI [])]) (endP tt fn.results.toList R)) : PSpec P f args R := by
  rw [PSpec_iff]
  refine ⟨plain_of hf hb hn, fun S F vs w hg hs hfr hd hv => ?_⟩
  have h0 : RepM S F (Env.set (fun _ => none) 9998 ⟨0, 0, 0, 1, true⟩) (Mem.none.set 9998 (.row ti (0 : Int) encI [])) w :=
    RepM.add (ρ := fun _ => none) (M := Mem.none) ⟨hs, hfr, hd, by simp, by simp [Mem.none], by simp, hg⟩ rfl _ _ (fun _ _ _ h1 => by cases h1) ⟨rfl, by simp, .inl ⟨rfl, rfl, rfl⟩⟩
  have e0 : Mem.none.set 9998 (.row ti (0 : Int) encI []) = Mem.ofL [(9998, .row ti (0 : Int) encI [])] := by
    funext x
    unfold Mem.set Mem.ofL
    cases h1 : Nat.beq x 9998 with
    | true => rw [Nat.eq_of_beq_eq_true h1]
    | false =>
      have : Nat.beq 9998 x = false := by rw [Bool.eq_false_iff]; intro e; rw [Nat.eq_of_beq_eq_true e] at h1; rw [Nat.beq_refl] at h1; cases h1
      rw [this]; rfl
  rw [e0] at h0
  refine spec_core (D := [9998]) (Q := endP tt fn.results.toList R) hf hb ?_ (fun ℓ b hb => ?_) h0 (hv.rv _) fun e a' w' ha hd' => ?_
  · rw [padK_eq] at h ⊢; exact codeK_ok hT hm c _ _ _ h
  · by_cases e : ℓ = 9998
    · exact List.mem_singleton.2 e
    · rw [Env.set_ne _ _ e] at hb; cases hb
  · obtain ⟨fr, M', S', ρ', hk, h1, h2, h3, h4, h5⟩ := ha
    have fin : (resK tt fr M' fn.results.toList fun us => leakR us M' fun us' _ => R (tupOf us') ∧ persN 5 (tupOf us') = true) → ∃ v, (results fn a'.tmps).run P w' = .ok v w' ∧ PurePost S F w R (.returned v) w' := by
      intro hk
      obtain ⟨vs', us, hK, hvs, hl, hr⟩ := resK_ok hT h3 h4 _ _ hk
      obtain ⟨us', M2, S2, ⟨hR, hp⟩, hle, hvs2, hM2⟩ := leakR_ok _ _ _ _ _ hK hvs h3
      exact ⟨_, run_results hr, _, _, S2, rfl, hR, Store.le_trans h1 hle, hM2.sw, hM2.fw, hM2.sf, persN_ok 5 hp (tupOf_ok hvs2), h5⟩
    cases e with
    | normal => exact ⟨by simp, fin hk⟩
    | ret => exact ⟨by simp, fin hk⟩
    | exit i => exact hk.elim
end

end Go.Proofs.Ytgjmbmdaaahmkaa


/-
  (What stood here stands ahead of the operations now.)
-/
namespace Go.Proofs.Ytgjmbmdaaahmkaa
end Go.Proofs.Ytgjmbmdaaahmkaa


/-
  Calling a function that hands out one new row.
-/
namespace Go.Proofs.Ytgjmbmdaaahmkaa

section
variable {M : Mem} {P : Program}

theorem overM_one (ℓ : Nat) (B : Blk) (M : Mem) : overM [(ℓ, B)] M = M.set ℓ B := by
  funext x
  simp only [overM, Mem.ofL, Mem.set]
  by_cases h : x = ℓ
  · subst h; simp
  · have h1 : Nat.beq ℓ x = false := by rw [Bool.eq_false_iff]; intro hh; exact h (Nat.eq_of_beq_eq_true hh).symm
    have h2 : Nat.beq x ℓ = false := by rw [Bool.eq_false_iff]; intro hh; exact h (Nat.eq_of_beq_eq_true hh)
    simp [h1, h2]

/-- what a function leaves that hands out one row, new -/
def newRow (n sz : Nat) (B : Blk) : AV → Mem → Prop := fun u M => ∃ ℓ0, u = .row ℓ0 n sz ∧ blkR [] 1 (M ℓ0) B

theorem Spec.fresh {f : FuncId} {args : List AV} {K : AV → Mem → Prop} {n sz : Nat} {t : TypeId} {α : Type} {d : α} {enc : α → List AV} {l : List α} (ℓ : Nat)
    (h : Spec P f args (Mem.ofL []) (fun u M => ∃ ℓ0, u = .row ℓ0 n sz ∧ M ℓ0 = some (.row t d enc l))) (hf : (M ℓ).isNone = true) (ha : avRs [] 400 args args)
    (hk : K (.row ℓ n sz) (M.set ℓ (.row t d enc l))) : Spec P f args M K := by
  refine Spec.call [] [] 400 rfl trivial ha h ?_
  rintro u M' ⟨ℓ0, rfl, e⟩
  refine ⟨[(ℓ, .old ℓ0)], [(ℓ, .row t d enc l)], .row ℓ n sz, ?_, ?_, ?_, ?_⟩
  · simp [keysB, oldsL, notDead, oldsB, backB, freshB, Mem.ofL, hf]
  · simp [memR, lmFind, blkR, e]
  · simp [avR, lmFind]
  · rw [overM_one]; exact hk
/-- in a region that draws its order: a call that owes nothing to labels -/
theorem callLP {f : FuncId} {args : List AV} {K : AV → Mem → Prop} (n : Nat) {u0 : AV} (h : PSpec P f args (fun u => u = u0)) (hp : args.all (persN n) = true) (ha : avRs [] 400 args args) (hu : avR [] 400 u0 u0) (hk : K u0 M) : callL P f args M K :=
  ⟨fun u _ => u = u0, 400, [], [], u0, Spec.of_pure (n := n) h hp fun u hu => hu, ha, rfl, rfl, fun u M' e => by subst e; exact ⟨trivial, hu⟩, hk⟩
/-- in a region that draws its order: a call that hands out new rows -/
theorem callLN {f : FuncId} {args : List AV} {K : AV → Mem → Prop} {R : AV → Mem → Prop} (n : Nat) (lb : LMap) (L2 : List (Nat × Blk)) (u' : AV) (h : Spec P f args (Mem.ofL []) R) (ha : avRs [] n args args)
    (hb : (keysB lb L2 && oldsL L2 lb && backB [] lb && freshB [] lb M) = true) (hf : L2.all (fun p => (M p.1).isNone) = true) (hr : ∀ u M', R u M' → memR lb n M' L2 ∧ avR lb n u u') (hk : K u' (overM L2 M)) : callL P f args M K :=
  ⟨R, n, lb, L2, u', h, ha, hb, hf, hr, hk⟩
/-- a call that hands out new rows -/
theorem Spec.news {f : FuncId} {args : List AV} {K : AV → Mem → Prop} {R : AV → Mem → Prop} (n : Nat) (lb : LMap) (L2 : List (Nat × Blk)) (u' : AV) (h : Spec P f args (Mem.ofL []) R) (ha : avRs [] n args args)
    (hb : (keysB lb L2 && oldsL L2 lb && backB [] lb && freshB [] lb M) = true) (hr : ∀ u M', R u M' → memR lb n M' L2 ∧ avR lb n u u') (hk : K u' (overM L2 M)) : Spec P f args M K :=
  Spec.call [] [] n rfl trivial ha h fun u M' hR => ⟨lb, L2, u', hb, (hr u M' hR).1, (hr u M' hR).2, hk⟩
end

end Go.Proofs.Ytgjmbmdaaahmkaa


/-
  A loop whose frame at the head is the frame before it, but for what its body writes.
-/
namespace Go.Proofs.Ytgjmbmdaaahmkaa

def modsOps : List Oper → List Nat → List Nat
  | [], r => r
  | o :: l, r => match o.dst with
    | some d => d :: modsOps l r
    | none => modsOps l r
def modsC : Code → List Nat → List Nat
  | .region _ ops _, r => modsOps ops.toList r
  | .seq a b, r => modsC a (modsC b r)
  | .cond _ a b, r => modsC a (modsC b r)
  | .block _ a, r => modsC a r
  | .loop a, r => modsC a r
  | .rangeFunc _ ps a b, r => ps.toList ++ modsC a (modsC b r)
  | .scope a, r => modsC a r
  | _, r => r
def forceN : List Nat → (List Nat → Prop) → Prop
  | [], k => k []
  | n :: l, k => forceN l fun l' => k (n :: l')
theorem forceN_eq : ∀ (l : List Nat) (k : List Nat → Prop), forceN l k = k l
  | [], _ => rfl
  | n :: l, k => by rw [forceN, forceN_eq l]
def hasN : List Nat → Nat → Bool
  | [], _ => false
  | n :: l, i => match Nat.beq n i with | true => true | false => hasN l i
/-- what the body writes is not known -/
def maskK : List AV → Nat → List Nat → (List AV → Prop) → Prop
  | [], _, _, k => k []
  | u :: fr, i, ms, k => match hasN ms i with
    | true => maskK fr (Nat.succ i) ms fun r => k (.top :: r)
    | false => match u with
      | .tup _ => maskK fr (Nat.succ i) ms fun r => k (.top :: r)
      | u => maskK fr (Nat.succ i) ms fun r => k (u :: r)
theorem maskK_ex : ∀ (fr : List AV) (i : Nat) (ms : List Nat) (k : List AV → Prop), maskK fr i ms k → ∃ fr0, k fr0
  | [], _, _, k, h => ⟨[], h⟩
  | u :: fr, i, ms, k, h => by
    unfold maskK at h
    split at h
    · obtain ⟨r, hr⟩ := maskK_ex fr _ _ _ h; exact ⟨_, hr⟩
    · split at h
      · obtain ⟨r, hr⟩ := maskK_ex fr _ _ _ h; exact ⟨_, hr⟩
      · obtain ⟨r, hr⟩ := maskK_ex fr _ _ _ h; exact ⟨_, hr⟩
def setsF : List AV → List (Nat × AV) → List AV
  | fr, [] => fr
  | fr, (i, u) :: us => setsF (fr.set i u) us
def setsK : List AV → List (Nat × AV) → (List AV → Prop) → Prop
  | fr, [], k => k fr
  | fr, (i, u) :: us, k => putK fr i u fun fr' => setsK fr' us k
theorem setsK_eq : ∀ (us : List (Nat × AV)) (fr : List AV) (k : List AV → Prop), setsK fr us k = k (setsF fr us)
  | [], _, _ => rfl
  | (i, u) :: us, fr, k => by rw [setsK, putK_eq, setsK_eq us]; rfl

/-- every label is its own -/
def idL (L : List (Nat × Blk)) : LMap := L.map fun p => (p.1, .old p.1)
theorem Sub.id_ {D : List Nat} {fr fr' : List AV} {M : Mem} {L : List (Nat × Blk)} (n : Nat) (hs : (keysB (idL L) L && oldsL L (idL L) && keepB (idL L) D) = true) (hm : memR (idL L) n M L) (hf : avRs (idL L) n fr fr') : Sub D fr M fr' (Mem.ofL L) :=
  Sub.by_ (idL L) L n hs hm hf

theorem sI {D : List Nat} {fr fr' : List AV} {M : Mem} {L : List (Nat × Blk)} (hm : memR (idL L) 400 M L := by repeat' (first | exact True.intro | exact rfl | (refine And.intro ?_ ?_) | ((conv => whnf); omega) | ((conv => whnf); simp only [List.length_append, List.length_cons, List.length_nil]; done) | ((conv => whnf); simp only [List.length_append, List.length_cons, List.length_nil]; omega))) (hf : avRs (idL L) 400 fr fr' := by repeat' (first | exact True.intro | exact rfl | (refine And.intro ?_ ?_) | ((conv => whnf); omega) | ((conv => whnf); simp only [List.length_append, List.length_cons, List.length_nil]; done) | ((conv => whnf); simp only [List.length_append, List.length_cons, List.length_nil]; omega))) (hs : (keysB (idL L) L && oldsL L (idL L) && keepB (idL L) D) = true := by exact rfl) : Sub D fr M fr' (Mem.ofL L) := Sub.id_ 400 hs hm hf
/-- what a call leaves, told by the labels that it got -/
theorem Spec.norm {P : Program} {f : FuncId} {args : List AV} {L0 : List (Nat × Blk)} {R R' : AV → Mem → Prop} (n : Nat) (h : Spec P f args (Mem.ofL L0) R)
    (hk : ∀ u M', R u M' → ∃ (L : List (Nat × Blk)) (u' : AV), (keysB (idL L) L && oldsL L (idL L) && keepB (idL L) (L0.map (·.1))) = true ∧ memR (idL L) n M' L ∧ avR (idL L) n u u' ∧ R' u' (Mem.ofL L)) : Spec P f args (Mem.ofL L0) R' := by
  rw [Spec_iff] at h ⊢
  refine ⟨h.1, fun S F ρ vs w hM hv => (h.2 S F ρ vs w hM hv).mono ?_⟩
  rintro e w' ⟨v, u, M', S', ρ', rfl, hR, hle, hρ, hM', hr, hw⟩
  obtain ⟨L, u', hb, hm, ha, hR'⟩ := hk u M' hR
  simp only [Bool.and_eq_true] at hb
  obtain ⟨⟨hb1, hb2⟩, hb3⟩ := hb
  refine ⟨v, u', _, S', lmEnv (idL L) ρ', rfl, hR', hle, fun ℓ b hb => ?_, hM'.relabel hm hb1 hb2, (avR_ok n).1 u u' v ha hr, hw⟩
  have hd := hM.dom ℓ b hb
  obtain ⟨B, hB⟩ : ∃ B, Mem.ofL L0 ℓ = some B := by
    cases h : Mem.ofL L0 ℓ with
    | none => exact absurd h hd
    | some B => exact ⟨B, rfl⟩
  have hmem := List.mem_map_of_mem (f := (·.1)) (ofL_mem hB)
  have := List.all_eq_true.1 hb3 _ hmem
  simp only at this
  split at this
  · rename_i m hm'
    have := Nat.eq_of_beq_eq_true this
    subst this
    show lmEnv (idL L) ρ' _ = _
    unfold lmEnv
    rw [hm']
    exact hρ _ _ hb
  · cases this

/-- what a call leaves, told by other labels beside those that it got -/
theorem Spec.renorm {P : Program} {f : FuncId} {args : List AV} {L0 : List (Nat × Blk)} {R R' : AV → Mem → Prop} (n : Nat) (h : Spec P f args (Mem.ofL L0) R)
    (hk : ∀ u M', R u M' → ∃ (lm : LMap) (L : List (Nat × Blk)) (u' : AV), (keysB lm L && oldsL L lm && keepB lm (L0.map (·.1))) = true ∧ memR lm n M' L ∧ avR lm n u u' ∧ R' u' (Mem.ofL L)) : Spec P f args (Mem.ofL L0) R' := by
  rw [Spec_iff] at h ⊢
  refine ⟨h.1, fun S F ρ vs w hM hv => (h.2 S F ρ vs w hM hv).mono ?_⟩
  rintro e w' ⟨v, u, M', S', ρ', rfl, hR, hle, hρ, hM', hr, hw⟩
  obtain ⟨lm, L, u', hb, hm, ha, hR'⟩ := hk u M' hR
  simp only [Bool.and_eq_true] at hb
  obtain ⟨⟨hb1, hb2⟩, hb3⟩ := hb
  refine ⟨v, u', _, S', lmEnv lm ρ', rfl, hR', hle, fun ℓ b hb => ?_, hM'.relabel hm hb1 hb2, (avR_ok n).1 u u' v ha hr, hw⟩
  have hd := hM.dom ℓ b hb
  obtain ⟨B, hB⟩ : ∃ B, Mem.ofL L0 ℓ = some B := by
    cases h : Mem.ofL L0 ℓ with
    | none => exact absurd h hd
    | some B => exact ⟨B, rfl⟩
  have hmem := List.mem_map_of_mem (f := (·.1)) (ofL_mem hB)
  have := List.all_eq_true.1 hb3 _ hmem
  simp only at this
  split at this
  · rename_i m hm'
    have := Nat.eq_of_beq_eq_true this
    subst this
    show lmEnv lm ρ' _ = _
    unfold lmEnv
    rw [hm']
    exact hρ _ _ hb
  · cases this

section
variable {P : Program} {tt : TT} {D : List Nat}
theorem WPc.loopF (hT : TOkB P tt = true) (hm : P.follows .mixedOrders = true) {c : Code} {fr : List AV} {M : Mem} {Q : APost} {X : Type _} (I : X → Prop) (us : X → List (Nat × AV)) (L : X → List (Nat × Blk)) (μ : X → Nat) (x0 : X) (hi : I x0)
    (h : forceN (modsC c []) fun ms => maskK fr 0 ms fun fr0 => Sub D fr M (setsF fr0 (us x0)) (Mem.ofL (L x0)) ∧
      ∀ x, I x → setsK fr0 (us x) fun fr1 => codeK P tt D c fr1 (Mem.ofL (L x)) (loopPost D I (fun x => setsF fr0 (us x)) (fun x => Mem.ofL (L x)) μ x Q)) : WPc P D (.loop c) fr M Q := by
  rw [forceN_eq] at h
  obtain ⟨fr0, h0, h⟩ := maskK_ex _ _ _ _ h
  refine WPc.loop I (fun x => setsF fr0 (us x)) (fun x => Mem.ofL (L x)) μ x0 hi h0 fun x hx => ?_
  have := h x hx
  rw [setsK_eq] at this
  exact codeK_ok hT hm _ _ _ _ this
end
end Go.Proofs.Ytgjmbmdaaahmkaa


/-
  Calling a function that answers whether something holds.
-/
namespace Go.Proofs.Ytgjmbmdaaahmkaa
theorem Spec.dcall {P : Program} {M : Mem} {f : FuncId} {args : List AV} {p : Prop} {i : Decidable p} {K : AV → Mem → Prop} {n : Nat} (h : PSpec P f args (fun u => u = .bool (@decide p i))) (hp : args.all (persN n) = true) (ht : p → K (.bool true) M) (hf : ¬ p → K (.bool false) M) : Spec P f args M K :=
  Spec.of_pure (n := n) h hp fun u hu => by
    subst hu
    by_cases hh : p
    · rw [decide_eq_true hh]; exact ht hh
    · rw [decide_eq_false hh]; exact hf hh
theorem callD {P : Program} {f : FuncId} {args : List AV} {p : Prop} {i : Decidable p} {K : AV → Prop} (n : Nat) (h : PSpec P f args (fun u => u = .bool (@decide p i))) (hp : args.all (persN n) = true) (ht : p → K (.bool true)) (hf : ¬ p → K (.bool false)) : callP P f args K :=
  callPI n h hp ⟨_, rfl⟩ fun u hu => by
    subst hu
    by_cases hh : p
    · rw [decide_eq_true hh]; exact ht hh
    · rw [decide_eq_false hh]; exact hf hh
theorem PSpec.dec {P : Program} {f : FuncId} {args : List AV} {p q : Prop} {i : Decidable p} {j : Decidable q} (h : PSpec P f args (fun u => u = .bool (@decide p i))) (e : p ↔ q) : PSpec P f args (fun u => u = .bool (@decide q j)) := by
  refine h.mono fun u hu => ?_
  rw [hu]
  congr 1
  simp [e]
theorem dec_t {p : Prop} {i : Decidable p} (h : p) : AV.bool true = .bool (@decide p i) := by rw [decide_eq_true h]
theorem dec_f {p : Prop} {i : Decidable p} (h : ¬ p) : AV.bool false = .bool (@decide p i) := by rw [decide_eq_false h]

/-! ### Lending rows to a function that only reads -/
def borA (M : Mem) : AV → AV
  | .row ℓ n sz => match M ℓ with
    | some (.row _ d enc l) => .sl d enc l
    | some (.gone d enc l) => .sl d enc l
    | _ => .row ℓ n sz
  | .ptr ℓ o => match M ℓ with
    | some (.box _ cells) => match allPers cells with
      | true => .pd (cells.drop o)
      | false => .ptr ℓ o
    | _ => .ptr ℓ o
  | u => u
def borB (M : Mem) : AV → AV
  | .agg cs => .agg (cs.map (borA M))
  | .fn f cs => .fn f (cs.map (borA M))
  | u => borA M u
def lentB : Blk → Bool
  | .row _ _ _ _ => true
  | .box _ _ => true
  | .hdr _ _ _ => true
  | _ => false
def flatA : AV → Bool
  | .int _ _ | .bool _ | .str _ | .nilsl | .top => true
  | _ => false
def flatB : AV → Bool
  | .tup cs => cs.all flatA
  | .agg cs => cs.all flatA
  | u => flatA u
section
variable {P : Program} {S F : Store} {ρ : Env} {M : Mem} {w : World}
def rowAt (ρ : Env) (M : Mem) (k : Nat) : Prop := ∃ ℓ B b, M ℓ = some B ∧ ρ ℓ = some b ∧ lentB B = true ∧ B.live b ∧ b.blk = k
noncomputable def lendS (S : Store) (ρ : Env) (M : Mem) (w : World) : Store := fun k => open Classical in if rowAt ρ M k then w.heap[k]? else S k
theorem rowAt_off (hM : RepM S F ρ M w) {k : Nat} (h : rowAt ρ M k) : S k = none ∧ F k = none ∧ k < w.heap.size := by
  obtain ⟨ℓ, B, b, h1, h2, _, h3, rfl⟩ := h
  obtain ⟨b', hb', hr⟩ := hM.blk _ _ h1
  rw [h2] at hb'; cases hb'
  exact ⟨(hr.off h3).1, (hr.off h3).2, hr.lt h3⟩
theorem lendS_le (hM : RepM S F ρ M w) : S.le (lendS S ρ M w) := by
  intro k o hk
  unfold lendS
  split
  · rename_i h
    rw [(rowAt_off hM h).1] at hk; cases hk
  · exact hk
theorem lendS_in (hM : RepM S F ρ M w) : (lendS S ρ M w).inW w := by
  intro k o hk
  unfold lendS at hk
  split at hk
  · exact hk
  · exact hM.sw k o hk
theorem borA_ok (hM : RepM S F ρ M w) {v : Value} {u : AV} (h : RV S ρ v u) : RV (lendS S ρ M w) ρ v (borA M u) := by
  have hle := lendS_le (S := S) (F := F) hM
  unfold borA
  split
  · rename_i ℓ n sz
    split
    · rename_i t α d enc l hl
      obtain ⟨b, hb, hn, hs, hz, rfl⟩ := h.row_inv
      obtain ⟨b', hb', hlen, hszs, hcase⟩ := hM.blk _ _ hl
      rw [hb] at hb'; cases hb'
      rcases hcase with ⟨hnil, rfl, hcap⟩ | ⟨hnil, hcap, vs, hheap, hsize, hcell, hS, hF⟩
      · have e : b.hdr = .slice none 0 0 := by simp only [Lab.hdr, hnil, if_true, hcap]; simp at hlen; rw [hlen]
        rw [e]
        exact .p (.sl d enc [] none 0 1 (fun _ _ => .int .i64 0) (by simp) (by simp) (by simp) (fun i j hi => by simp at hi) (by simp) (fun i a j u hi => by simp at hi))
      · have e : b.hdr = .slice (some ⟨b.blk, 0, none⟩) l.length b.cap := by simp only [Lab.hdr, hnil, hlen]; rfl
        rw [e]
        have hl1 : lendS S ρ M w b.blk = some (.cells vs t (0, 0)) := by
          unfold lendS
          rw [if_pos ⟨ℓ, _, b, hl, hb, rfl, hnil, rfl⟩]
          exact hheap
        refine .p (.sl d enc l (some ⟨b.blk, 0, none⟩) b.cap b.sz (fun i j => vs.getD (i * b.sz + j) undef) hcap (fun a ha => (hszs a ha).2) (fun a ha => (hszs a ha).1) (fun i j hi hj => ⟨_, rfl, ?_⟩) (by simp) (fun i a j u hi hu => ?_))
        · rw [Addr.add_mk]
          have : i * b.sz + j < vs.size := by
            rw [hsize]
            have : (i + 1) * b.sz ≤ b.cap * b.sz := Nat.mul_le_mul_right _ (by omega)
            rw [Nat.add_mul] at this
            omega
          unfold Store.cell
          simp only [hl1]
          simp [this]
        · obtain ⟨v, hv, hvr⟩ := hcell i a j u hi hu
          have : vs.getD (i * b.sz + j) undef = v := by simp [hv]
          rw [this]
          exact hvr.mono hle
    · rename_i α d enc l hl
      obtain ⟨b, hb, hn, hs, hz, rfl⟩ := h.row_inv
      obtain ⟨b', hb', hlen, hr⟩ := hM.blk _ _ hl
      rw [hb] at hb'; cases hb'
      exact .p (hr.mono hle)
    · exact h.mono hle (Env.le_refl _)
  · rename_i ℓ o
    split
    · rename_i t cells hl
      split
      · rename_i hp
        obtain ⟨b, hb, rfl⟩ := h.ptr_inv
        obtain ⟨b', hb', vs, hheap, hvs, hS, hF⟩ := hM.blk _ _ hl
        rw [hb] at hb'; cases hb'
        have hps := (allPers_ok hp hvs).1
        have hl1 : lendS S ρ M w b.blk = some (.cells vs t (0, 0)) := by
          unfold lendS
          rw [if_pos ⟨ℓ, _, b, hl, hb, rfl, trivial, rfl⟩]
          exact hheap
        refine .p (.pd _ _ (fun j => vs.getD (o + j) undef) (fun j hj => ?_) (fun j u hu => ?_))
        · rw [Addr.add_mk]
          have hl2 := hps.1
          have : o + j < vs.size := by simp at hj hl2; omega
          unfold Store.cell
          simp only [hl1]
          simp [this]
        · rw [List.getElem?_drop] at hu
          obtain ⟨v, hv, hvr⟩ := hps.2 _ u hu
          have hv' : vs[o + j]? = some v := by simpa using hv
          have : vs.getD (o + j) undef = v := by simp [hv']
          rw [this]
          exact hvr.mono hle
      · exact h.mono hle (Env.le_refl _)
    · exact h.mono hle (Env.le_refl _)
  · exact h.mono hle (Env.le_refl _)
theorem borB_ok (hM : RepM S F ρ M w) {v : Value} {u : AV} (h : RV S ρ v u) : RV (lendS S ρ M w) ρ v (borB M u) := by
  unfold borB
  split
  · rename_i cs
    obtain ⟨vs, rfl, hr⟩ := h.agg_inv
    have : RVs (lendS S ρ M w) ρ vs.toList (cs.map (borA M)) := ⟨by simpa using hr.1, fun i u hu => by
      rw [List.getElem?_map] at hu
      obtain ⟨u0, h0, rfl⟩ := Option.map_eq_some_iff.1 hu
      obtain ⟨v, hv, hvr⟩ := hr.2 i u0 h0
      exact ⟨v, hv, borA_ok hM hvr⟩⟩
    have := RV.agg_mk this
    simpa using this
  · rename_i f cs
    obtain ⟨vs, rfl, hr⟩ := h.fn_inv
    have : RVs (lendS S ρ M w) ρ vs.toList (cs.map (borA M)) := ⟨by simpa using hr.1, fun i u hu => by
      rw [List.getElem?_map] at hu
      obtain ⟨u0, h0, rfl⟩ := Option.map_eq_some_iff.1 hu
      obtain ⟨v, hv, hvr⟩ := hr.2 i u0 h0
      exact ⟨v, hv, borA_ok hM hvr⟩⟩
    have := RV.fn_mk f this
    simpa using this
  · exact borA_ok hM h
theorem flatA_ok {S S' : Store} {v : Value} {u : AV} (hf : flatA u = true) (h : RP S v u) : RP S' v u := by
  cases h <;> first | (simp [flatA] at hf; done) | constructor
theorem flatB_ok {S S' : Store} {v : Value} {u : AV} (hf : flatB u = true) (h : RP S v u) : RP S' v u := by
  cases u with
  | tup cs =>
    cases h with
    | tup _ vs hs vals he hv => exact .tup cs vs hs vals he fun j u hu => flatA_ok (List.all_eq_true.1 hf u (List.mem_of_getElem? hu)) (hv j u hu)
  | agg cs =>
    cases h with
    | agg _ vs hs vals he hv => exact .agg cs vs hs vals he fun j u hu => flatA_ok (List.all_eq_true.1 hf u (List.mem_of_getElem? hu)) (hv j u hu)
  | _ => exact flatA_ok hf h

noncomputable def backS (S' : Store) (ρ : Env) (M : Mem) : Store := fun k => open Classical in if rowAt ρ M k then none else S' k
theorem backS_row {S' : Store} {k : Nat} (h : rowAt ρ M k) : backS S' ρ M k = none := by unfold backS; rw [if_pos h]
theorem backS_no {S' : Store} {k : Nat} (h : ¬ rowAt ρ M k) : backS S' ρ M k = S' k := by unfold backS; rw [if_neg h]
/-- a function that only reads, called with blocks of the caller's own, told as what they hold; what it answers does not lead into them -/
theorem Spec.borrowG {f : FuncId} {args args' : List AV} {R : AV → Prop} {K : AV → Mem → Prop} (h : PSpec P f args' R) (hconv : ∀ S F ρ w vs, RepM S F ρ M w → RVs S ρ vs args → RPs (lendS S ρ M w) vs args') (hfl : ∀ u, R u → flatB u = true) (hk : ∀ u, R u → K u M) : Spec P f args M K := by
  rw [Spec_iff]
  rw [PSpec_iff] at h
  refine ⟨h.1, ?_⟩
  intro S F ρ vs w hM hv
  have hle := lendS_le (S := S) (F := F) hM
  let own : Nat → Prop := fun ℓ => ∃ B, M ℓ = some B ∧ lentB B = true
  have hargs := hconv S F ρ w vs hM hv
  have hsf : ∀ k, lendS S ρ M w k = none ∨ keepF F ρ M w own k = none := by
    intro k
    by_cases hr : rowAt ρ M k
    · right
      obtain ⟨ℓ, B, b, h1, h2, h3, h4, rfl⟩ := hr
      unfold keepF
      rw [if_neg]
      · exact (rowAt_off hM ⟨ℓ, B, b, h1, h2, h3, h4, rfl⟩).2.1
      · rintro ⟨y, C, c, g1, g2, g3, g4, g5⟩
        refine hM.inj y ℓ C _ c b g1 h1 g2 h2 g3 h4 (fun e => ?_) g4
        subst e
        exact g5 ⟨B, h1, h3⟩
    · have e : lendS S ρ M w k = S k := by unfold lendS; rw [if_neg hr]
      rw [e]
      exact keepF_sf hM k
  refine (h.2 (lendS S ρ M w) (keepF F ρ M w own) vs w (hM.gl.mono hle) (lendS_in hM) (keepF_inW hM) hsf hargs).mono ?_
  rintro e w' ⟨v, u, S', rfl, hR, hle', hs, hf, hd, hr, hw⟩
  have hS2 : S.le (backS S' ρ M) := by
    intro k o hk
    by_cases h : rowAt ρ M k
    · rw [(rowAt_off hM h).1] at hk; cases hk
    · rw [backS_no h]; exact hle' k o (hle k o hk)
  have hS2' : ∀ k o, backS S' ρ M k = some o → S' k = some o := by
    intro k o hk
    by_cases h : rowAt ρ M k
    · rw [backS_row h] at hk; cases hk
    · rw [backS_no h] at hk; exact hk
  refine ⟨v, u, M, backS S' ρ M, ρ, rfl, hk u hR, hS2, Env.le_refl _, ⟨fun k o hk => hs k o (hS2' k o hk), fun k o hk => hf k o (keepF_le hM k o hk), fun k => ?_, hM.dom, fun ℓ B hB => ?_, hM.inj, hM.gl.mono hS2⟩, .p (flatB_ok (hfl u hR) hr), hw⟩
  · cases hk2 : backS S' ρ M k with
    | none => exact .inl rfl
    | some o =>
      right
      rcases hd k with h | h
      · rw [hS2' k o hk2] at h; cases h
      · cases hk : F k with
        | none => rfl
        | some o' => rw [keepF_le hM k o' hk] at h; cases h
  · obtain ⟨b, hb, hrB⟩ := hM.blk _ _ hB
    refine ⟨b, hb, hrB.keep hS2 (Env.le_refl _) fun hl => ?_⟩
    have hlt := hrB.lt hl
    obtain ⟨o, ho⟩ : ∃ o, w.heap[b.blk]? = some o := ⟨_, Array.getElem?_eq_getElem hlt⟩
    have hSb := (hrB.off hl).1
    by_cases hrow : rowAt ρ M b.blk
    · have e1 : lendS S ρ M w b.blk = some o := by unfold lendS; rw [if_pos hrow]; exact ho
      refine ⟨by rw [hs _ o (hle' _ o e1), ho], ?_⟩
      rw [hSb, backS_row hrow]
    · have hno : ¬ own ℓ := by
        rintro ⟨B', h1, h2⟩
        rw [hB] at h1
        cases h1
        exact hrow ⟨ℓ, B, b, hB, hb, h2, hl, rfl⟩
      have hk := keepF_live (F := F) (w := w) (own := own) hB hb hl hno
      refine ⟨by rw [hf b.blk o (hk.trans ho), ho], ?_⟩
      rw [hSb, backS_no hrow]
      rcases hd b.blk with h | h
      · exact h
      · rw [hk, ho] at h; cases h

theorem Spec.borrow {f : FuncId} {args : List AV} {R : AV → Prop} {K : AV → Mem → Prop} {n : Nat} (h : PSpec P f (args.map (borB M)) R) (hp : (args.map (borB M)).all (persN n) = true) (hfl : ∀ u, R u → flatB u = true) (hk : ∀ u, R u → K u M) : Spec P f args M K :=
  Spec.borrowG h (fun S F ρ w vs hM hv => persN_all hp (S := lendS S ρ M w) (ρ := ρ) ⟨by simpa using hv.1, fun i u hu => by
    rw [List.getElem?_map] at hu
    obtain ⟨u0, h0, rfl⟩ := Option.map_eq_some_iff.1 hu
    obtain ⟨v, hv1, hvr⟩ := hv.2 i u0 h0
    exact ⟨v, hv1, borB_ok hM hvr⟩⟩) hfl hk
/-- a row becomes known for good, at the head of a loop -/
theorem Sub.leak {D : List Nat} {fr fr' : List AV} {M' : Mem} (ℓ : Nat) {t : TypeId} {α : Type} {d : α} {enc : α → List AV} {l : List α} (hl : M ℓ = some (.row t d enc l))
    (h : Sub D (fr.map (swapRow ℓ (.sl d enc l))) (M.set ℓ (.gone d enc l)) fr' M') : Sub D fr M fr' M' := by
  rw [Sub_iff] at *
  intro S F ρ0 ρ a w h0 h1 hM hF
  obtain ⟨S1, b, hle, hb, hM1, _⟩ := hM.leak hl
  obtain ⟨S2, ρ2, k1, k2, k3, k4⟩ := h S1 F ρ0 ρ a w h0 h1 hM1 ⟨⟨by simpa using hF.1.1, fun i u hu => by
    rw [List.getElem?_map] at hu
    obtain ⟨u0, hu0, rfl⟩ := Option.map_eq_some_iff.1 hu
    obtain ⟨v, e, hr⟩ := hF.1.2 i u0 hu0
    exact ⟨v, e, swapRow_ok hM1 (Mem.set_eq _ _ _) (hr.mono hle (Env.le_refl _))⟩⟩, hF.2⟩
  exact ⟨S2, ρ2, Store.le_trans hle k1, k2, k3, k4⟩
end

/-! ### steps whose side conditions are found -/
theorem lI {p : Prop} (h : p := by simp only [List.length_cons, List.length_nil]; omega) : p := h
theorem nI {c k : Prop} (h' : k) (h : c := by first | omega | (dsimp only; omega)) : needK c k := needI h h'
theorem aI {c : Prop} {n : Int} {K : Int → Prop} (h' : K n) (hc : c := by exact trivial) (h : -9223372036854775808 ≤ n ∧ n ≤ 9223372036854775807 := by omega) : arithK c .i64 n K := arI hc h h'
theorem tI {p : Prop} {i : Decidable p} {k : Bool → Prop} (h' : k true) (h : p := by omega) : cmpK p i k := cmpT h h'
theorem fI {p : Prop} {i : Decidable p} {k : Bool → Prop} (h' : k false) (h : ¬ p := by omega) : cmpK p i k := cmpF h h'
theorem dI {P : Program} {tt : TT} {ops : List Oper} {fr : List AV} {M : Mem} {K : List AV → Mem → Prop} (h : opsK P tt (some .any) ops ops fr M K) (hB : drawB tt .any ops = true := by decide +kernel) : drawK P tt ops fr M K := drawI hB h
theorem dR {P : Program} {tt : TT} {ops : List Oper} {fr : List AV} {M : Mem} {K : List AV → Mem → Prop} (h : opsK P tt (some .rows) ops ops fr M K) (hB : drawB tt .rows ops = true := by decide +kernel) : drawK P tt ops fr M K := drawR hB h
theorem dP {P : Program} {tt : TT} {ops : List Oper} {fr : List AV} {M : Mem} {K : List AV → Mem → Prop} (h : opsK P tt (some .pers) ops ops fr M K) (hB : drawB tt .pers ops = true := by decide +kernel) : drawK P tt ops fr M K := drawP hB h
theorem pI {α β : Type} {enc : α → List AV} {l : List α} {enc' : β → List AV} {l' : List β} {bytes : Nat} {K : List α → Prop} (l'' : List α) (h : l''.map enc = l'.map enc') (hk : K l'')
    (hb : (l.length + l'.length) * bytes ≤ 140737488355328 := by first | omega | (dsimp only; omega) | (simp only [List.length_cons, List.length_nil, List.length_append]; omega)) : appK enc l enc' l' bytes K := appI l'' h hb hk
theorem dt {g k : Prop} (h' : k) (h : k → g := by first | exact fun h => nI h | exact fun h => aI h | exact fun h => tI h | exact fun h => fI h) : g := h h'
theorem at_ {g k : Prop} (h' : k) (h : k → g := by first | exact fun h => nI h | exact fun h => aI h | exact fun h => arU trivial (by omega) h | exact fun h => arB trivial (by omega) h | exact fun h => dI h | exact fun h => dR h | exact fun h => dP h | exact fun h => boxP rfl h | exact fun h => pI _ rfl h | exact fun h => rowSetI _ rfl h | exact fun h => tI h | exact fun h => fI h) : g := h h'
theorem oP {P : Program} {M : Mem} {f : FuncId} {args : List AV} {v : AV} {K : AV → Mem → Prop} (h : PSpec P f args (fun u => u = v)) (hk : K v M) (hp : args.all (persN 5) = true := by exact rfl) : Spec P f args M K :=
  Spec.of_pure (n := 5) h hp fun u hu => by subst hu; exact hk
theorem oC {P : Program} {f : FuncId} {args : List AV} {v : AV} {K : AV → Prop} (h : PSpec P f args (fun u => u = v)) (hk : K v) (hp : args.all (persN 5) = true := by exact rfl) : callP P f args K :=
  callPI 5 h hp ⟨_, rfl⟩ fun u hu => by subst hu; exact hk
theorem dC {P : Program} {M : Mem} {f : FuncId} {args : List AV} {p : Prop} {i : Decidable p} {K : AV → Mem → Prop} (h : PSpec P f args (fun u => u = .bool (@decide p i))) (ht : p → K (.bool true) M) (hf : ¬ p → K (.bool false) M) (hp : args.all (persN 5) = true := by exact rfl) : Spec P f args M K :=
  Spec.dcall (n := 5) h hp ht hf
theorem dD {P : Program} {f : FuncId} {args : List AV} {p : Prop} {i : Decidable p} {K : AV → Prop} (h : PSpec P f args (fun u => u = .bool (@decide p i))) (ht : p → K (.bool true)) (hf : ¬ p → K (.bool false)) (hp : args.all (persN 5) = true := by exact rfl) : callP P f args K :=
  callD 5 h hp ht hf
end Go.Proofs.Ytgjmbmdaaahmkaa


/-
  Telling a state by any labels; families of labels (the rows of a matrix).
-/
namespace Go.Proofs.Ytgjmbmdaaahmkaa

def envG (f : Nat → Option LM) (ρ : Env) : Env := fun x => match f x with
  | some (.old ℓ) => ρ ℓ
  | some (.nil sz) => some ⟨0, 0, 0, sz, true⟩
  | none => none
/-- a block told by other labels: f sends the new ones back -/
def tellG (f : Nat → Option LM) (M : Mem) (x : Nat) (B' : Blk) : Prop :=
  match f x with
  | some (.old ℓ) => ∃ B, M ℓ = some B ∧ (B' = .dead ∨ ((∀ b, B'.live b → B.live b) ∧ ∀ S F ρ w b, BlkRep S F ρ w b B → BlkRep S F (envG f ρ) w b B'))
  | some (.nil _) => (∃ (t : TypeId) (α : Type) (d : α) (enc : α → List AV), B' = .row t d enc []) ∨ ∃ t g, B' = .hdr t g 0
  | none => False
/-- a memory told by other labels -/
structure Retell (f : Nat → Option LM) (M M' : Mem) : Prop where
  tell : ∀ x B', M' x = some B' → tellG f M x B'
  keys : ∀ x y, f x = some y → M' x ≠ none
  olds : ∀ a b ℓ, f a = some (.old ℓ) → f b = some (.old ℓ) → M' a ≠ some .dead → M' b ≠ some .dead → a = b

section
variable {S F : Store} {ρ : Env} {M M' : Mem} {w : World} {P : Program} {tt : TT} {f : Nat → Option LM}

theorem Retell.live (h : Retell f M M') {x : Nat} {B' : Blk} (hB : M' x = some B') {b : Lab} (hb : envG f ρ x = some b) (hl : B'.live b) : ∃ ℓ B, f x = some (.old ℓ) ∧ M ℓ = some B ∧ ρ ℓ = some b ∧ B.live b ∧ B' ≠ .dead := by
  have ht := h.tell x B' hB
  unfold tellG at ht
  unfold envG at hb
  cases hf : f x with
  | none => rw [hf] at hb; cases hb
  | some y =>
    rw [hf] at hb ht
    cases y with
    | old ℓ =>
      obtain ⟨B, h1, h2⟩ := ht
      rcases h2 with rfl | ⟨h2, h3⟩
      · exact hl.elim
      · exact ⟨ℓ, B, rfl, h1, hb, h2 b hl, fun e => by subst e; exact hl⟩
    | nil sz =>
      simp only [Option.some.injEq] at hb
      subst hb
      rcases ht with ⟨t, α, d, enc, rfl⟩ | ⟨t, g, rfl⟩
      · simp [Blk.live] at hl
      · simp [Blk.live] at hl
theorem RepM.relabelG (hM : RepM S F ρ M w) (h : Retell f M M') : RepM S F (envG f ρ) M' w := by
  refine ⟨hM.sw, hM.fw, hM.sf, fun x b hb => ?_, fun x B' hB' => ?_, fun x y B C b c h1 h2 h3 h4 h5 h6 hne => ?_, hM.gl⟩
  · cases hf : f x with
    | none => unfold envG at hb; rw [hf] at hb; cases hb
    | some y => exact h.keys x y hf
  · have ht := h.tell x B' hB'
    unfold tellG at ht
    cases hf : f x with
    | none => rw [hf] at ht; exact ht.elim
    | some y =>
      rw [hf] at ht
      cases y with
      | old ℓ =>
        obtain ⟨B, h1, h2⟩ := ht
        obtain ⟨b, hb, hr⟩ := hM.blk _ _ h1
        refine ⟨b, by unfold envG; rw [hf]; exact hb, ?_⟩
        rcases h2 with rfl | ⟨_, h3⟩
        · trivial
        · exact h3 S F ρ w b hr
      | nil sz =>
        refine ⟨⟨0, 0, 0, sz, true⟩, by unfold envG; rw [hf], ?_⟩
        rcases ht with ⟨t, α, d, enc, rfl⟩ | ⟨t, g, rfl⟩
        · exact ⟨rfl, by simp, .inl ⟨rfl, rfl, rfl⟩⟩
        · exact ⟨[], rfl, fun i hi => absurd hi (Nat.not_lt_zero _), rfl, by simp, .inl ⟨rfl, rfl, rfl⟩⟩
  · obtain ⟨ℓ1, B1, f1, m1, r1, l1, d1⟩ := h.live h1 h3 h5
    obtain ⟨ℓ2, B2, f2, m2, r2, l2, d2⟩ := h.live h2 h4 h6
    refine hM.inj ℓ1 ℓ2 B1 B2 b c m1 m2 r1 r2 l1 l2 fun e => ?_
    subst e
    exact hne (h.olds x y ℓ1 f1 f2 (fun e => d1 (by rw [h1] at e; exact Option.some.inj e)) (fun e => d2 (by rw [h2] at e; exact Option.some.inj e)))
/-- values told by other labels -/
def TellL (f : Nat → Option LM) (us us' : List AV) : Prop := ∀ S ρ vs, RVs S ρ vs us → RVs S (envG f ρ) vs us'
def TellA (f : Nat → Option LM) (u u' : AV) : Prop := ∀ S ρ v, RV S ρ v u → RV S (envG f ρ) v u'
theorem envG_le {lm : LMap} (h : ∀ k y, lmFind lm k = some y → f k = some y) : Env.le (lmEnv lm ρ) (envG f ρ) := by
  intro x b hb
  unfold lmEnv at hb
  unfold envG
  cases hf : lmFind lm x with
  | none => rw [hf] at hb; cases hb
  | some y =>
    rw [hf] at hb
    rw [h x y hf]
    cases y with
    | old ℓ => exact hb
    | nil sz => exact hb
theorem TellL.by_ {lm : LMap} (n : Nat) {us us' : List AV} (h : ∀ k y, lmFind lm k = some y → f k = some y) (ha : avRs lm n us us') : TellL f us us' :=
  fun _ _ vs hv => ((avR_ok n).2 us us' vs ha hv).mono (Store.le_refl _) (envG_le h)
theorem TellA.by_ {lm : LMap} (n : Nat) {u u' : AV} (h : ∀ k y, lmFind lm k = some y → f k = some y) (ha : avR lm n u u') : TellA f u u' :=
  fun _ _ v hv => ((avR_ok n).1 u u' v ha hv).mono (Store.le_refl _) (envG_le h)
theorem TellA.row {ℓ ℓ' n sz : Nat} (h : f ℓ' = some (.old ℓ)) : TellA f (.row ℓ n sz) (.row ℓ' n sz) := fun S ρ v hv => by
  obtain ⟨b, hb, h1, h2, h3, rfl⟩ := hv.row_inv
  exact .row ℓ' n sz b (by unfold envG; rw [h]; exact hb) h1 h2 h3
theorem TellL.one {u u' : AV} (h : TellA f u u') : TellL f [u] [u'] := fun S ρ vs hv => by
  obtain ⟨v, vs', rfl, h1, h2⟩ := hv.cons_inv
  cases h2.nil_inv
  exact RVs.cons (h S ρ v h1) (RVs.nil _ _)

theorem Sub.gen {D : List Nat} {fr fr' : List AV} (f : Nat → Option LM) (h : Retell f M M') (hD : ∀ d ∈ D, f d = some (.old d)) (hf : TellL f fr fr') : Sub D fr M fr' M' := by
  rw [Sub_iff]
  intro S F ρ0 ρ a w h0 h1 hM hF
  refine ⟨S, envG f ρ, Store.le_refl _, fun ℓ b hb => ?_, hM.relabelG h, hf S ρ _ hF.1, hF.2⟩
  unfold envG
  rw [hD ℓ (h0 ℓ b hb)]
  exact h1 ℓ b hb

/-! ### A list of labels, and a family beside it -/
def famF (lm : LMap) (ψ : Nat → Option Nat) : Nat → Option LM := fun x => match lmFind lm x with
  | some y => some y
  | none => (ψ x).map .old
theorem famF_lm {lm : LMap} {ψ : Nat → Option Nat} : ∀ k y, lmFind lm k = some y → famF lm ψ k = some y := fun k y h => by unfold famF; rw [h]
theorem famF_ψ {lm : LMap} {ψ : Nat → Option Nat} {x o : Nat} (h : lmFind lm x = none) (h2 : ψ x = some o) : famF lm ψ x = some (.old o) := by unfold famF; rw [h, h2]; rfl
/-- as memR, but for rows of any elements -/
def memH (lm : LMap) (n : Nat) (M : Mem) : List (Nat × Blk) → Prop
  | [] => True
  | (ℓ', B') :: r => (match B' with
    | .hdr _ _ _ => True
    | B' => match lmFind lm ℓ' with
      | some (.old ℓ) => blkR lm n (M ℓ) B'
      | some (.nil _) => match B' with
        | .row _ _ _ l => l = []
        | _ => False
      | none => False) ∧ memH lm n M r
theorem memH_mem {lm : LMap} {n : Nat} : ∀ {L : List (Nat × Blk)}, memH lm n M L → ∀ ℓ' B', (ℓ', B') ∈ L → (∃ t g m, B' = .hdr t g m) ∨ (match lmFind lm ℓ' with
      | some (.old ℓ) => blkR lm n (M ℓ) B'
      | some (.nil _) => match B' with
        | .row _ _ _ l => l = []
        | _ => False
      | none => False)
  | [], _, _, _, h => by cases h
  | (k, C) :: r, h, ℓ', B', hm => by
    rcases List.mem_cons.1 hm with e | hm
    · injection e with e1 e2
      subst e1; subst e2
      have h1 := h.1
      cases B' with
      | hdr t g m => exact .inl ⟨t, g, m, rfl⟩
      | _ => exact .inr h1
    · exact memH_mem h.2 ℓ' B' hm
/-- what is asked of a row of any elements -/
def hdrG (lm : LMap) (f : Nat → Option LM) (M : Mem) (ℓ' : Nat) (t : TypeId) (g' : Nat → List AV) (m : Nat) : Prop :=
  match lmFind lm ℓ' with
  | some (.old ℓ) => ∃ g, M ℓ = some (.hdr t g m) ∧ ∀ i, i < m → TellL f (g i) (g' i)
  | some (.nil _) => m = 0
  | none => False
theorem blkR_tell {lm : LMap} {n ℓ : Nat} {B' : Blk} (h : ∀ k y, lmFind lm k = some y → f k = some y) (hb : blkR lm n (M ℓ) B') : ∃ B, M ℓ = some B ∧ (B' = .dead ∨ ((∀ b, B'.live b → B.live b) ∧ ∀ S F ρ w b, BlkRep S F ρ w b B → BlkRep S F (envG f ρ) w b B')) := by
  unfold blkR at hb
  split at hb
  · rename_i B hM; exact ⟨B, hM, .inl rfl⟩
  · exact hb.elim
  · rename_i t cs t' cs' hM
    refine ⟨_, hM, .inr ⟨fun _ _ => trivial, ?_⟩⟩
    split at hb
    · rename_i ht
      have := Nat.eq_of_beq_eq_true ht
      subst this
      rintro S F ρ w b ⟨vs, h1, h2, h3⟩
      exact ⟨vs, h1, ((avR_ok n).2 cs cs' _ hb h2).mono (Store.le_refl _) (envG_le h), h3⟩
    · exact hb.elim
  · rename_i t α d enc l t' α' d' enc' l' hM
    rw [hb] at hM
    exact ⟨_, hM, .inr ⟨fun _ hl => hl, fun S F ρ w b hr => hr⟩⟩
  · rename_i α d enc l α' d' enc' l' hM
    rw [hb] at hM
    exact ⟨_, hM, .inr ⟨fun _ hl => hl, fun S F ρ w b hr => hr⟩⟩
  · rename_i s p s' p' hM
    obtain ⟨rfl, rfl⟩ := hb
    exact ⟨_, hM, .inr ⟨fun _ hl => hl, fun S F ρ w b hr => hr⟩⟩
  · rename_i hM
    rw [hb] at hM
    exact ⟨_, hM, .inr ⟨fun _ hl => hl, fun S F ρ w b hr => hr⟩⟩
  · rename_i hM
    rw [hb] at hM
    exact ⟨_, hM, .inr ⟨fun _ hl => hl, fun S F ρ w b hr => hr⟩⟩
  · exact hb.elim
def rowB : Blk → Bool
  | .row _ _ _ _ => true
  | .dead => true
  | _ => false
/-- what is asked of the family: ψ sends its labels back -/
structure FamOk (lm : LMap) (L : List (Nat × Blk)) (N : Mem) (ψ : Nat → Option Nat) (M : Mem) : Prop where
  blk : ∀ x B', N x = some B' → lmFind lm x = none ∧ Mem.ofL L x = none ∧ ∃ o B, ψ x = some o ∧ M o = some B ∧ (B' = .dead ∨ (B' = B ∧ rowB B = true))
  key : ∀ x o, ψ x = some o → N x ≠ none
  inj : ∀ x y o, ψ x = some o → ψ y = some o → N x ≠ some .dead → N y ≠ some .dead → x = y
  far : ∀ x o k, ψ x = some o → N x ≠ some .dead → lmFind lm k = some (.old o) → Mem.ofL L k = some .dead
theorem lm_olds : ∀ {lm : LMap} {L : List (Nat × Blk)}, oldsL L lm = true → ∀ {a b ℓ : Nat}, lmFind lm a = some (.old ℓ) → lmFind lm b = some (.old ℓ) → Mem.ofL L a ≠ some .dead → Mem.ofL L b ≠ some .dead → a = b := by
  intro lm L ho a b ℓ ha hb h1 h2
  unfold oldsL at ho
  have fd : ∀ (l : LMap) {c : Nat}, lmFind l c = some (.old ℓ) → Mem.ofL L c ≠ some .dead → lmFind (l.filter fun p => notDead L p.1) c = some (.old ℓ) := by
    intro l
    induction l with
    | nil => intro c h _; simp [lmFind] at h
    | cons p r ih =>
      intro c h hd
      obtain ⟨k, y⟩ := p
      simp only [lmFind] at h
      by_cases e : Nat.beq k c = true
      · rw [e] at h
        have e1 := Nat.eq_of_beq_eq_true e
        subst e1
        have hnd : notDead L k = true := by
          unfold notDead
          split
          · rename_i h0; exact absurd h0 hd
          · rfl
        rw [List.filter_cons, if_pos hnd]
        simp only [lmFind, e]
        exact h
      · rw [Bool.not_eq_true] at e
        rw [e] at h
        rw [List.filter_cons]
        split
        · simp only [lmFind, e]; exact ih h hd
        · exact ih h hd
  exact olds_inj ho (fd lm ha h1) (fd lm hb h2)
theorem retell_fam (lm : LMap) (L : List (Nat × Blk)) (N : Mem) (ψ : Nat → Option Nat) (n : Nat) (hs : (keysB lm L && oldsL L lm) = true) (hm : memH lm n M L)
    (hh : ∀ ℓ' t g' m, (ℓ', Blk.hdr t g' m) ∈ L → hdrG lm (famF lm ψ) M ℓ' t g' m) (hN : FamOk lm L N ψ M) : Retell (famF lm ψ) M (overM L N) := by
  rw [Bool.and_eq_true] at hs
  have hfree : ∀ x, lmFind lm x = none → ∀ B, Mem.ofL L x = some B → False := by
    intro x hx B hB
    have hmem := ofL_mem hB
    rcases memH_mem hm x B hmem with ⟨t, g, m, rfl⟩ | h
    · have := hh x t g m hmem
      unfold hdrG at this
      rw [hx] at this
      exact this
    · rw [hx] at h; exact h
  refine ⟨fun x B' hB' => ?_, fun x y hy => ?_, fun a b ℓ ha hb h1 h2 => ?_⟩
  · unfold overM at hB'
    cases hL : Mem.ofL L x with
    | some B =>
      rw [hL] at hB'
      cases hB'
      have hmem := ofL_mem hL
      rcases memH_mem hm x B' hmem with ⟨t, g, m, rfl⟩ | h
      · have h2 := hh x t g m hmem
        unfold hdrG at h2
        unfold tellG
        cases hf : lmFind lm x with
        | none => rw [hf] at h2; exact h2.elim
        | some y =>
          rw [famF_lm x y hf]
          rw [hf] at h2
          cases y with
          | old ℓ =>
            obtain ⟨g0, h3, h4⟩ := h2
            refine ⟨_, h3, .inr ⟨fun _ hl => hl, ?_⟩⟩
            rintro S F ρ w b ⟨l, hlm, hg, hr⟩
            exact ⟨l, hlm, fun i hi => h4 i hi S ρ _ (hg i hi), hr⟩
          | nil sz => subst h2; exact .inr ⟨t, g, rfl⟩
      · unfold tellG
        cases hf : lmFind lm x with
        | none => rw [hf] at h; exact h.elim
        | some y =>
          rw [famF_lm x y hf]
          rw [hf] at h
          cases y with
          | old ℓ => exact blkR_tell famF_lm h
          | nil sz =>
            simp only at h
            split at h
            · rename_i t α d enc l
              subst h
              exact .inl ⟨_, _, _, _, rfl⟩
            · exact h.elim
    | none =>
      rw [hL] at hB'
      obtain ⟨h1, _, o, B, h3, h4, h5⟩ := hN.blk x B' hB'
      unfold tellG
      rw [famF_ψ h1 h3]
      refine ⟨B, h4, ?_⟩
      rcases h5 with rfl | ⟨rfl, h6⟩
      · exact .inl rfl
      · refine .inr ⟨fun _ hl => hl, fun S F ρ w b hr => ?_⟩
        cases B' with
        | row t d enc l => exact hr
        | dead => trivial
        | _ => cases h6
  · unfold overM
    cases hL : Mem.ofL L x with
    | some B => simp
    | none =>
      cases hf : lmFind lm x with
      | some z =>
        have := List.all_eq_true.1 hs.1 _ (lmFind_mem hf)
        simp only at this
        rw [hL] at this; cases this
      | none =>
        unfold famF at hy
        rw [hf] at hy
        cases hψ : ψ x with
        | none => rw [hψ] at hy; cases hy
        | some o => exact hN.key x o hψ
  · have src : ∀ c, famF lm ψ c = some (.old ℓ) → overM L N c ≠ some .dead → (lmFind lm c = some (.old ℓ) ∧ Mem.ofL L c ≠ some .dead) ∨ (lmFind lm c = none ∧ ψ c = some ℓ ∧ N c ≠ some .dead) := by
      intro c hc hd
      unfold famF at hc
      cases hf : lmFind lm c with
      | some z =>
        rw [hf] at hc
        cases hc
        refine .inl ⟨rfl, fun e => hd ?_⟩
        unfold overM; rw [e]
      | none =>
        rw [hf] at hc
        cases hψ : ψ c with
        | none => rw [hψ] at hc; cases hc
        | some o =>
          rw [hψ] at hc
          cases hc
          refine .inr ⟨rfl, rfl, fun e => hd ?_⟩
          unfold overM
          cases hL : Mem.ofL L c with
          | some B => exact (hfree c hf B hL).elim
          | none => exact e
    rcases src a ha h1 with ⟨a1, a2⟩ | ⟨a1, a2, a3⟩
    · rcases src b hb h2 with ⟨b1, b2⟩ | ⟨b1, b2, b3⟩
      · exact lm_olds hs.2 a1 b1 a2 b2
      · exact absurd (hN.far b ℓ a b2 b3 a1) a2
    · rcases src b hb h2 with ⟨b1, b2⟩ | ⟨b1, b2, b3⟩
      · exact absurd (hN.far a ℓ b a2 a3 b1) b2
      · exact hN.inj a b ℓ a2 b2 a3 b3
theorem Sub.fam {D : List Nat} {fr fr' : List AV} (lm : LMap) (L : List (Nat × Blk)) (N : Mem) (ψ : Nat → Option Nat) (n : Nat) (hs : (keysB lm L && oldsL L lm) = true) (hm : memH lm n M L)
    (hh : ∀ ℓ' t g' m, (ℓ', Blk.hdr t g' m) ∈ L → hdrG lm (famF lm ψ) M ℓ' t g' m) (hN : FamOk lm L N ψ M) (hD : ∀ d ∈ D, famF lm ψ d = some (.old d)) (hf : avRs lm n fr fr') : Sub D fr M fr' (overM L N) :=
  Sub.gen (famF lm ψ) (retell_fam lm L N ψ n hs hm hh hN) hD (TellL.by_ n famF_lm hf)

/-! ### Calls -/
def overN (N2 M : Mem) : Mem := fun x => match N2 x with
  | some B => some B
  | none => M x
theorem Spec.callG {g : FuncId} {args args' : List AV} {K R : AV → Mem → Prop} (f1 : Nat → Option LM) (M0 : Mem) (hr1 : Retell f1 M M0) (ha : TellL f1 args args') (h : Spec P g args' M0 R)
    (hk : ∀ u M', R u M' → ∃ (f2 : Nat → Option LM) (N2 : Mem) (u' : AV), Retell f2 M' N2 ∧ (∀ x ℓ, f1 x = some (.old ℓ) → f2 ℓ = some (.old x)) ∧ (∀ ℓ y, f2 ℓ = some y → (∃ x, f1 x = some (.old ℓ)) ∨ M ℓ = none) ∧ TellA f2 u u' ∧ K u' (overN N2 M)) : Spec P g args M K := by
  rw [Spec_iff] at h ⊢
  refine ⟨h.1, fun S F ρ vs w hM hv => ?_⟩
  let own : Nat → Prop := fun ℓ => ∃ x, f1 x = some (.old ℓ)
  have hMr := hM.relabelG hr1
  have hlive : ∀ x B' b, M0 x = some B' → envG f1 ρ x = some b → B'.live b → keepF F ρ M w own b.blk = none := by
    intro x B' b hB' hb hl
    obtain ⟨b', hb', hr'⟩ := hMr.blk _ _ hB'
    rw [hb] at hb'; cases hb'
    have hFb := (hr'.off hl).2
    obtain ⟨ℓ, B, hf, hML, hρ, hBl, _⟩ := hr1.live hB' hb hl
    unfold keepF
    rw [if_neg]
    · exact hFb
    · rintro ⟨y, C, c, g1, g2, g3, g4, g5⟩
      refine hM.inj y ℓ C B c b g1 hML g2 hρ g3 hBl (fun e => ?_) g4
      subst e
      exact g5 ⟨x, hf⟩
  have hMc := hMr.reF (keepF_inW (own := own) hM) (keepF_sf hM) hlive
  refine (h.2 S (keepF F ρ M w own) (envG f1 ρ) vs w hMc (ha S ρ vs hv)).mono ?_
  rintro e w' ⟨v, u, M', S', ρ', rfl, hR, hle, hρ, hM', hr, hw⟩
  obtain ⟨f2, N2, u', hr2, hb3, hb4, hau, hK⟩ := hk u M' hR
  have hM2 := hM'.relabelG hr2
  let ρ2 : Env := fun ℓ => match envG f2 ρ' ℓ with
    | some b => some b
    | none => ρ ℓ
  have hle1 : Env.le (envG f2 ρ') ρ2 := fun ℓ b hb => by show (match envG f2 ρ' ℓ with | some b => some b | none => ρ ℓ) = _; rw [hb]
  have hle2 : Env.le ρ ρ2 := by
    intro ℓ b hb
    show (match envG f2 ρ' ℓ with | some b => some b | none => ρ ℓ) = _
    cases hf : f2 ℓ with
    | none =>
      have : envG f2 ρ' ℓ = none := by unfold envG; rw [hf]
      rw [this]; exact hb
    | some y =>
      rcases hb4 ℓ y hf with ⟨x, hx⟩ | hn
      · have he : envG f1 ρ x = some b := by unfold envG; rw [hx]; exact hb
        have h2 : envG f2 ρ' ℓ = some b := by unfold envG; rw [hb3 x ℓ hx]; exact hρ _ _ he
        rw [h2]
      · exact absurd hn (hM.dom ℓ b hb)
  have hF : ∀ k o, F k = some o → keepF F ρ M w own k = some o := keepF_le hM
  have framed : ∀ ℓ B b, N2 ℓ = none → M ℓ = some B → ρ ℓ = some b → B.live b → keepF F ρ M w own b.blk = w.heap[b.blk]? := by
    intro ℓ B b h0 h1 h2 h3
    exact keepF_live h1 h2 h3 fun ⟨x, hf⟩ => hr2.keys ℓ _ (hb3 x ℓ hf) h0
  refine ⟨v, u', overN N2 M, S', ρ2, rfl, hK, hle, hle2, ⟨hM'.sw, fun k o hk => hM'.fw k o (hF k o hk), fun k => ?_, fun ℓ b hb => ?_, fun ℓ B hB => ?_, fun x y B C b c h1 h2 h3 h4 h5 h6 hne => ?_, hM'.gl⟩, (hau S' ρ' v hr).mono (Store.le_refl _) hle1, hw⟩
  · rcases hM'.sf k with h1 | h1
    · exact .inl h1
    · right
      cases hk : F k with
      | none => rfl
      | some o => rw [hF k o hk] at h1; cases h1
  · unfold overN
    cases h2 : N2 ℓ with
    | some B => simp
    | none =>
      have hb : (match envG f2 ρ' ℓ with | some b => some b | none => ρ ℓ) = some b := hb
      cases h3 : envG f2 ρ' ℓ with
      | some b' => exact absurd h2 (hM2.dom _ _ h3)
      | none => rw [h3] at hb; exact hM.dom _ _ hb
  · unfold overN at hB
    cases h2 : N2 ℓ with
    | some B' =>
      rw [h2] at hB
      cases hB
      obtain ⟨b, hb, hr3⟩ := hM2.blk _ _ h2
      refine ⟨b, hle1 _ _ hb, (hr3.keep (Store.le_refl _) hle1 fun _ => ⟨rfl, rfl⟩).reF fun hl => ?_⟩
      have := (hr3.off hl).2
      cases hk : F b.blk with
      | none => rfl
      | some o => rw [hF _ o hk] at this; cases this
    | none =>
      rw [h2] at hB
      obtain ⟨b, hb, hr3⟩ := hM.blk _ _ hB
      refine ⟨b, hle2 _ _ hb, hr3.keep hle hle2 fun hl => ?_⟩
      have hk := framed ℓ B b h2 hB hb hl
      obtain ⟨o, ho⟩ : ∃ o, w.heap[b.blk]? = some o := ⟨_, Array.getElem?_eq_getElem (hr3.lt hl)⟩
      refine ⟨by rw [hM'.fw _ o (hk.trans ho), ho], ?_⟩
      rw [(hr3.off hl).1]
      rcases hM'.sf b.blk with h1 | h1
      · exact h1
      · rw [hk, ho] at h1; cases h1
  · have back : ∀ z D d, overN N2 M z = some D → ρ2 z = some d → D.live d → (N2 z = some D ∧ envG f2 ρ' z = some d) ∨ (N2 z = none ∧ M z = some D ∧ ρ z = some d) := by
      intro z D d hD hd hl
      unfold overN at hD
      cases hz : N2 z with
      | some D' =>
        rw [hz] at hD; cases hD
        obtain ⟨b', hb', _⟩ := hM2.blk _ _ hz
        have := hle1 _ _ hb'
        rw [hd] at this; cases this
        exact .inl ⟨rfl, hb'⟩
      | none =>
        rw [hz] at hD
        obtain ⟨b', hb', _⟩ := hM.blk _ _ hD
        have := hle2 _ _ hb'
        rw [hd] at this; cases this
        exact .inr ⟨rfl, hD, hb'⟩
    have mixed : ∀ z D d z' D' d', N2 z = some D → envG f2 ρ' z = some d → D.live d → N2 z' = none → M z' = some D' → ρ z' = some d' → D'.live d' → d.blk ≠ d'.blk := by
      intro z D d z' D' d' a1 a2 a3 a4 a5 a6 a7 e
      obtain ⟨b', hb', hr3⟩ := hM2.blk _ _ a1
      rw [a2] at hb'; cases hb'
      have h1 := (hr3.off a3).2
      have h2 := framed z' D' d' a4 a5 a6 a7
      obtain ⟨c', hc', hr4⟩ := hM.blk _ _ a5
      rw [a6] at hc'; cases hc'
      rw [e, h2, Array.getElem?_eq_getElem (hr4.lt a7)] at h1
      cases h1
    rcases back x B b h1 h3 h5 with ⟨p1, p2⟩ | ⟨p0, p1, p2⟩ <;> rcases back y C c h2 h4 h6 with ⟨q1, q2⟩ | ⟨q0, q1, q2⟩
    · exact hM2.inj x y B C b c p1 q1 p2 q2 h5 h6 hne
    · exact mixed x B b y C c p1 p2 h5 q0 q1 q2 h6
    · exact fun e => mixed y C c x B b q1 q2 h6 p0 p1 p2 h5 e.symm
    · exact hM.inj x y B C b c p1 q1 p2 q2 h5 h6 hne

/-! ### Entering a function with a memory told anew: what is not kept of it is dead behind the call -/
open Classical in
noncomputable def deadM (M0 : Mem) (D : List Nat) (M : Mem) : Mem := fun x => if M0 x ≠ none ∧ x ∉ D then some .dead else M x
theorem deadM_in {M0 : Mem} {D : List Nat} {M : Mem} {x : Nat} (h : x ∈ D) : deadM M0 D M x = M x := by
  unfold deadM; rw [if_neg (fun hh => hh.2 h)]
theorem deadM_new {M0 : Mem} {D : List Nat} {M : Mem} {x : Nat} (h : M0 x = none) : deadM M0 D M x = M x := by
  unfold deadM; rw [if_neg (fun hh => hh.1 h)]
theorem deadM_out {M0 : Mem} {D : List Nat} {M : Mem} {x : Nat} (h : M0 x ≠ none) (h2 : x ∉ D) : deadM M0 D M x = some .dead := by
  unfold deadM; rw [if_pos ⟨h, h2⟩]
theorem Spec.introG (hT : TOkB P tt = true) (hm : P.follows .mixedOrders = true) {g : FuncId} {fn : Func} {c : Code} {args args' : List AV} {M0 M1 : Mem} (f0 : Nat → Option LM) (D : List Nat) {R : AV → Mem → Prop} (hr : Retell f0 M0 M1) (hD : ∀ d ∈ D, f0 d = some (.old d)) (ha : TellL f0 args args')
    (hf : P.funcs[g]? = some fn) (hb : fn.body = some c) (hn : (fn.name == "runtime.NumGoroutine") = false)
    (h : padK args' (fn.ntmps - args'.length) fun fr => codeK P tt D c fr M1 (endL tt fn.results.toList fun u M => (∀ x, M0 x ≠ none → x ∉ D → M x = none) ∧ R u (deadM M0 D M))) : Spec P g args M0 R := by
  rw [Spec_iff]
  refine ⟨plain_of hf hb hn, fun S F ρ vs w hM hv => ?_⟩
  have hM1 := hM.relabelG hr
  have hlen := (ha S ρ vs hv).1
  let ρ0 : Env := fun x => open Classical in if x ∈ D then ρ x else none
  have hρ0 : ∀ x b, ρ0 x = some b → x ∈ D ∧ ρ x = some b := by
    intro x b hx
    have hx : (open Classical in if x ∈ D then ρ x else none) = some b := hx
    split at hx
    · rename_i h1; exact ⟨h1, hx⟩
    · cases hx
  have hw : WPc P D c (args' ++ List.replicate (fn.ntmps - args'.length) (.tup [])) M1 (endL tt fn.results.toList fun u M => (∀ x, M0 x ≠ none → x ∉ D → M x = none) ∧ R u (deadM M0 D M)) := by
    rw [padK_eq] at h; exact codeK_ok hT hm c _ _ _ h
  rw [WPc_iff] at hw
  refine calls_of_wp hf hb ?_
  have hvs := ha S ρ vs hv
  have hF : RepF S (envG f0 ρ) { tmps := vs.toArray ++ Array.replicate (fn.ntmps - vs.toArray.size) undef, defers := [] } (args' ++ List.replicate (fn.ntmps - args'.length) (.tup [])) := by
    refine ⟨?_, rfl⟩
    have e : (vs.toArray ++ Array.replicate (fn.ntmps - vs.toArray.size) undef).toList = vs ++ List.replicate (fn.ntmps - args'.length) undef := by simp [hlen]
    rw [e]
    refine hvs.append ⟨by simp, fun i u hu => ?_⟩
    have hi := (List.getElem?_eq_some_iff.1 hu).1
    simp only [List.length_replicate] at hi
    have hu' : u = .tup [] := by
      rw [List.getElem?_replicate] at hu
      simp [hi] at hu
      exact hu.symm
    subst hu'
    exact ⟨undef, by simp [hi], RV.tup_mk (RVs.nil _ _)⟩
  refine wp_mono (hw S F ρ0 (envG f0 ρ) _ w (fun ℓ b hb => (hρ0 ℓ b hb).1) (fun ℓ b hb => ?_) hM1 hF) ?_
  · obtain ⟨h1, h2⟩ := hρ0 ℓ b hb
    unfold envG
    rw [hD ℓ h1]
    exact h2
  rintro e a' w' ⟨x, hx, ha'⟩
  have hd : a'.defers = [] := by obtain ⟨_, _, _, _, _, _, _, _, hF', _⟩ := ha'; exact hF'.2
  obtain ⟨fr, M', S', ρ', hk, h1, h2, h3, h4, h5⟩ := ha'
  have fin : (resK tt fr M' fn.results.toList fun us => leakR us M' fun us' M'' => (∀ x, M0 x ≠ none → x ∉ D → M'' x = none) ∧ R (tupOf us') (deadM M0 D M'')) → ∃ v, (results fn a'.tmps).run P w' = .ok v w' ∧ CallPost S F ρ w R (.returned v) w' := by
    intro hk
    obtain ⟨vs', us, hK, hvs', hl, hrr⟩ := resK_ok hT h3 h4 _ _ hk
    obtain ⟨us', M2, S2, ⟨hq, hR⟩, hle, hvs2, hM2⟩ := leakR_ok _ _ _ _ _ hK hvs' h3
    let ρ2 : Env := fun x => open Classical in if M0 x ≠ none ∧ x ∉ D then ρ x else ρ' x
    have hin : ∀ {x}, ¬ (M0 x ≠ none ∧ x ∉ D) → ρ2 x = ρ' x := fun {x} hh => by show (open Classical in if M0 x ≠ none ∧ x ∉ D then ρ x else ρ' x) = _; rw [if_neg hh]
    have hout : ∀ {x}, (M0 x ≠ none ∧ x ∉ D) → ρ2 x = ρ x := fun {x} hh => by show (open Classical in if M0 x ≠ none ∧ x ∉ D then ρ x else ρ' x) = _; rw [if_pos hh]
    have hle2 : Env.le ρ' ρ2 := by
      intro x b hb
      rw [hin, hb]
      rintro ⟨h6, h7⟩
      exact hM2.dom x b hb (hq x h6 h7)
    have hle3 : Env.le ρ ρ2 := by
      intro x b hb
      by_cases hh : M0 x ≠ none ∧ x ∉ D
      · rw [hout hh, hb]
      · rw [hin hh]
        have hx0 := hM.dom x b hb
        have hxD : x ∈ D := Classical.not_not.1 fun h8 => hh ⟨hx0, h8⟩
        refine h2 x b ?_
        show (open Classical in if x ∈ D then ρ x else none) = some b
        rw [if_pos hxD, hb]
    have get : ∀ x B, deadM M0 D M2 x = some B → (∃ b, ρ2 x = some b ∧ B.live b) → M2 x = some B ∧ ρ2 x = ρ' x := by
      rintro x B hB ⟨b, _, hl⟩
      by_cases hh : M0 x ≠ none ∧ x ∉ D
      · rw [deadM_out hh.1 hh.2] at hB; cases hB; exact hl.elim
      · unfold deadM at hB
        rw [if_neg hh] at hB
        exact ⟨hB, hin hh⟩
    refine ⟨_, run_results hrr, _, _, deadM M0 D M2, S2, ρ2, rfl, hR, Store.le_trans h1 hle, hle3, ⟨hM2.sw, hM2.fw, hM2.sf, fun x b hb => ?_, fun x B hB => ?_, fun x y B C b c g1 g2 g3 g4 g5 g6 hne => ?_, hM2.gl⟩, (tupOf_ok hvs2).mono (Store.le_refl _) hle2, h5⟩
    · by_cases hh : M0 x ≠ none ∧ x ∉ D
      · rw [deadM_out hh.1 hh.2]; simp
      · rw [hin hh] at hb
        unfold deadM
        rw [if_neg hh]
        exact hM2.dom x b hb
    · by_cases hh : M0 x ≠ none ∧ x ∉ D
      · rw [deadM_out hh.1 hh.2] at hB
        cases hB
        cases hM0 : M0 x with
        | none => exact absurd hM0 hh.1
        | some B0 =>
          obtain ⟨b, hb, _⟩ := hM.blk x B0 hM0
          exact ⟨b, by rw [hout hh, hb], trivial⟩
      · unfold deadM at hB
        rw [if_neg hh] at hB
        obtain ⟨b, hb, hrb⟩ := hM2.blk x B hB
        exact ⟨b, by rw [hin hh, hb], hrb.keep (Store.le_refl _) hle2 fun _ => ⟨rfl, rfl⟩⟩
    · obtain ⟨k1, k2⟩ := get x B g1 ⟨b, g3, g5⟩
      obtain ⟨k3, k4⟩ := get y C g2 ⟨c, g4, g6⟩
      rw [k2] at g3
      rw [k4] at g4
      exact hM2.inj x y B C b c k1 k3 g3 g4 g5 g6 hne
  cases x with
  | normal =>
    obtain ⟨v, hv1, hv2⟩ := fin hk
    cases e <;> first | exact ⟨hd, v, hv1, hv2⟩ | (cases hx; done)
  | ret =>
    obtain ⟨v, hv1, hv2⟩ := fin hk
    cases e <;> first | exact ⟨hd, v, hv1, hv2⟩ | (cases hx; done)
  | exit i => exact hk.elim
end

end Go.Proofs.Ytgjmbmdaaahmkaa


/-
  Matrices: a row of rows, all of the call's own; some of its rows may bear labels of their own (focus).
-/
namespace Go.Proofs.Ytgjmbmdaaahmkaa

/-- labels of rows: those in focus by name, the others from p on -/
def fnA : List (Nat × Nat) → Nat → Option Nat
  | [], _ => none
  | (y, k) :: r, x => match Nat.beq y x with
    | true => some k
    | false => fnA r x
def inA : List (Nat × Nat) → Nat → Bool
  | [], _ => false
  | (_, k') :: r, k => match Nat.beq k' k with
    | true => true
    | false => inA r k
def sgF (p m : Nat) (a : List (Nat × Nat)) (x : Nat) : Option Nat := match fnA a x with
  | some k => some k
  | none => match Nat.ble p x && Nat.blt (x - p) m with
    | true => (match inA a (x - p) with
      | true => none
      | false => some (x - p))
    | false => none
def lbF (p : Nat) : List (Nat × Nat) → Nat → Nat
  | [], k => p + k
  | (y, k') :: r, k => match Nat.beq k' k with
    | true => y
    | false => lbF p r k
def wfA (p m : Nat) : List (Nat × Nat) → Prop
  | [] => True
  | (y, k) :: r => y < p ∧ k < m ∧ (∀ q ∈ r, q.1 ≠ y ∧ q.2 ≠ k) ∧ wfA p m r
theorem beq_f {a b : Nat} (h : a ≠ b) : Nat.beq a b = false := by rw [Bool.eq_false_iff]; exact fun e => h (Nat.eq_of_beq_eq_true e)
theorem fnA_some : ∀ {a : List (Nat × Nat)} {x k : Nat}, fnA a x = some k → (x, k) ∈ a
  | (y, k') :: r, x, k, h => by
    rw [fnA] at h
    split at h
    · rename_i hb
      have := Nat.eq_of_beq_eq_true hb
      subst this
      cases h
      exact List.mem_cons_self
    · exact List.mem_cons_of_mem _ (fnA_some h)
theorem wfA_mem {p m : Nat} : ∀ {a : List (Nat × Nat)} {x k : Nat}, wfA p m a → (x, k) ∈ a → x < p ∧ k < m ∧ fnA a x = some k ∧ lbF p a k = x ∧ inA a k = true
  | (y, k') :: r, x, k, hw, h => by
    rcases List.mem_cons.1 h with e | h
    · injection e with e1 e2
      subst e1; subst e2
      exact ⟨hw.1, hw.2.1, by rw [fnA, Nat.beq_refl], by rw [lbF, Nat.beq_refl], by rw [inA, Nat.beq_refl]⟩
    · obtain ⟨h1, h2, h3, h4, h5⟩ := wfA_mem hw.2.2.2 h
      have hne := hw.2.2.1 _ h
      refine ⟨h1, h2, ?_, ?_, ?_⟩
      · rw [fnA, beq_f (fun e => hne.1 e.symm)]; exact h3
      · rw [lbF, beq_f (fun e => hne.2 e.symm)]; exact h4
      · rw [inA, beq_f (fun e => hne.2 e.symm)]; exact h5
theorem lbF_out {p : Nat} : ∀ {a : List (Nat × Nat)} {k : Nat}, inA a k = false → lbF p a k = p + k
  | [], k, _ => rfl
  | (y, k') :: r, k, h => by
    rw [inA] at h
    split at h
    · cases h
    · rename_i hb
      rw [lbF, hb]
      exact lbF_out h
theorem inA_mem : ∀ {a : List (Nat × Nat)} {k : Nat}, inA a k = true → ∃ x, (x, k) ∈ a
  | (y, k') :: r, k, h => by
    rw [inA] at h
    split at h
    · rename_i hb
      have := Nat.eq_of_beq_eq_true hb
      subst this
      exact ⟨y, List.mem_cons_self⟩
    · obtain ⟨x, hx⟩ := inA_mem h
      exact ⟨x, List.mem_cons_of_mem _ hx⟩
theorem lbF_in {p m : Nat} {a : List (Nat × Nat)} {k : Nat} (h : wfA p m a) : lbF p a k = p + k ∨ ∃ q ∈ a, q.1 = lbF p a k ∧ q.2 = k := by
  cases hi : inA a k with
  | false => exact .inl (lbF_out hi)
  | true =>
    obtain ⟨x, hx⟩ := inA_mem hi
    exact .inr ⟨_, hx, (wfA_mem h hx).2.2.2.1.symm, rfl⟩
theorem sgF_some {p m : Nat} {a : List (Nat × Nat)} {x k : Nat} (hw : wfA p m a) (h : sgF p m a x = some k) : k < m ∧ lbF p a k = x := by
  unfold sgF at h
  split at h
  · rename_i k' hk
    cases h
    have := wfA_mem hw (fnA_some hk)
    exact ⟨this.2.1, this.2.2.2.1⟩
  · split at h
    · rename_i hb
      rw [Bool.and_eq_true] at hb
      have h1 := Nat.le_of_ble_eq_true hb.1
      have h2 : x - p < m := by have := hb.2; simp [Nat.blt] at this; omega
      split at h
      · cases h
      · rename_i hi
        cases h
        exact ⟨h2, by rw [lbF_out hi]; omega⟩
    · cases h
theorem sgF_lb {p m : Nat} {a : List (Nat × Nat)} {k : Nat} (hw : wfA p m a) (h : k < m) : sgF p m a (lbF p a k) = some k := by
  cases hi : inA a k with
  | true =>
    obtain ⟨x, hx⟩ := inA_mem hi
    have := wfA_mem hw hx
    rw [this.2.2.2.1]
    unfold sgF
    rw [this.2.2.1]
  | false =>
    rw [lbF_out hi]
    have hn : fnA a (p + k) = none := by
      cases hf : fnA a (p + k) with
      | none => rfl
      | some k' =>
        have := (wfA_mem hw (fnA_some hf)).1
        omega
    unfold sgF
    rw [hn]
    have h1 : Nat.ble p (p + k) = true := Nat.ble_eq_true_of_le (by omega)
    have h2 : Nat.blt (p + k - p) m = true := by simp [Nat.blt]; omega
    rw [h1, h2, Nat.add_sub_cancel_left, hi]
    rfl
theorem lbF_inj {p m : Nat} {a : List (Nat × Nat)} (hw : wfA p m a) {k k' : Nat} (h : k < m) (h' : k' < m) (e : lbF p a k = lbF p a k') : k = k' := by
  have h1 := sgF_lb hw h
  rw [e, sgF_lb hw h'] at h1
  exact (Option.some.inj h1).symm
theorem sgF_key {p m : Nat} {a : List (Nat × Nat)} {x k : Nat} (h : sgF p m a x = some k) : p ≤ x ∨ ∃ q ∈ a, q.1 = x := by
  unfold sgF at h
  split at h
  · rename_i k' hk
    exact .inr ⟨_, fnA_some hk, rfl⟩
  · split at h
    · rename_i hb
      rw [Bool.and_eq_true] at hb
      exact .inl (Nat.le_of_ble_eq_true hb.1)
    · cases h
theorem lmFind_app {lm lmX : LMap} {f : Nat → Option LM} (h1 : ∀ k y, lmFind lm k = some y → f k = some y) (h2 : ∀ q ∈ lmX, f q.1 = some q.2) : ∀ k y, lmFind (lm ++ lmX) k = some y → f k = some y := by
  induction lm with
  | nil => exact fun k y h => h2 _ (lmFind_mem h)
  | cons p r ih =>
    obtain ⟨k0, y0⟩ := p
    intro k y h
    rw [List.cons_append, lmFind] at h
    by_cases e : Nat.beq k0 k = true
    · rw [e] at h
      cases h
      have := Nat.eq_of_beq_eq_true e
      subst this
      exact h1 k0 y0 (by rw [lmFind, Nat.beq_refl])
    · rw [Bool.not_eq_true] at e
      rw [e] at h
      have hr := lmFind_mem h
      rcases List.mem_append.1 hr with h3 | h3
      · by_cases hk : ∃ y', lmFind r k = some y'
        · obtain ⟨y', hy'⟩ := hk
          have h4 := h1 k y' (by rw [lmFind, e]; exact hy')
          have app : ∀ (a b : LMap) {z : LM}, lmFind a k = some z → lmFind (a ++ b) k = some z := by
            intro a b z hz
            induction a with
            | nil => cases hz
            | cons q a iha =>
              obtain ⟨k1, z1⟩ := q
              rw [List.cons_append, lmFind]
              rw [lmFind] at hz
              split
              · rename_i hb; rw [hb] at hz; exact hz
              · rename_i hb; rw [hb] at hz; exact iha hz
          rw [app r lmX hy'] at h
          cases h
          exact h4
        · exfalso
          have : ∀ (a : LMap) {z : LM}, (k, z) ∈ a → ∃ y', lmFind a k = some y' := by
            intro a z hz
            induction a with
            | nil => cases hz
            | cons q a iha =>
              obtain ⟨k1, z1⟩ := q
              rw [lmFind]
              by_cases hb : Nat.beq k1 k = true
              · rw [hb]; exact ⟨_, rfl⟩
              · rw [Bool.not_eq_true] at hb
                rw [hb]
                rcases List.mem_cons.1 hz with h5 | h5
                · injection h5 with h6 _
                  subst h6
                  rw [Nat.beq_refl] at hb; cases hb
                · exact iha h5
          exact hk (this r h3)
      · by_cases hk : ∃ y', lmFind r k = some y'
        · obtain ⟨y', hy'⟩ := hk
          have h4 := h1 k y' (by rw [lmFind, e]; exact hy')
          have app : ∀ (a b : LMap) {z : LM}, lmFind a k = some z → lmFind (a ++ b) k = some z := by
            intro a b z hz
            induction a with
            | nil => cases hz
            | cons q a iha =>
              obtain ⟨k1, z1⟩ := q
              rw [List.cons_append, lmFind]
              rw [lmFind] at hz
              split
              · rename_i hb; rw [hb] at hz; exact hz
              · rename_i hb; rw [hb] at hz; exact iha hz
          rw [app r lmX hy'] at h
          cases h
          exact h4
        · exact h2 _ h3
def rowsN (ti : TypeId) (σ : Nat → Option Nat) (c : Nat → List Int) : Mem := fun x => match σ x with
  | some k => some (.row ti 0 encI (c k))
  | none => none
/-- the labels of a list are below a number, but for some -/
theorem lm_far {lm : LMap} {p : Nat} (h : lm.all (fun q => Nat.blt q.1 p) = true) {x : Nat} (hx : p ≤ x) : lmFind lm x = none := by
  cases hf : lmFind lm x with
  | none => rfl
  | some y =>
    have := List.all_eq_true.1 h _ (lmFind_mem hf)
    simp [Nat.blt] at this
    omega
theorem ofL_far {L : List (Nat × Blk)} {p : Nat} (h : L.all (fun q => Nat.blt q.1 p) = true) {x : Nat} (hx : p ≤ x) : Mem.ofL L x = none := by
  cases hf : Mem.ofL L x with
  | none => rfl
  | some y =>
    have := List.all_eq_true.1 h _ (ofL_mem hf)
    simp [Nat.blt] at this
    omega

section
variable {M : Mem} {P : Program} {tt : TT}
theorem retell_mat (lm : LMap) (L : List (Nat × Blk)) (n : Nat) (hd : Nat) (t0 ti : TypeId) (w m : Nat) (c : Nat → List Int) (σ : Nat → Option Nat) (lab lab' : Nat → Nat)
    (hs : (keysB lm L && oldsL L lm) = true) (hm : memH lm n M L) (hL : ∀ ℓ t g m', (ℓ, Blk.hdr t g m') ∈ L → ℓ = hd ∧ t = t0 ∧ m' = m ∧ ∀ k, k < m → g k = [.row (lab' k) w 1])
    (h4 : lmFind lm hd = some (.old hd)) (hg : ∃ g, M hd = some (.hdr t0 g m) ∧ ∀ k, k < m → g k = [.row (lab k) w 1]) (hrow : ∀ k, k < m → M (lab k) = some (.row ti 0 encI (c k)))
    (hσ1 : ∀ x k, σ x = some k → k < m ∧ lmFind lm x = none ∧ Mem.ofL L x = none) (hσ2 : ∀ x y k, σ x = some k → σ y = some k → x = y) (hσ3 : ∀ k, k < m → σ (lab' k) = some k)
    (hlab : ∀ k k', k < m → k' < m → lab k = lab k' → k = k') (hfar : ∀ k, k < m → ∀ y, lmFind lm y = some (.old (lab k)) → Mem.ofL L y = some .dead) :
    Retell (famF lm fun x => (σ x).map lab) M (overM L (rowsN ti σ c)) := by
  refine retell_fam lm L _ _ n hs hm (fun ℓ t g m' hmem => ?_) ⟨fun x B' hB => ?_, fun x o hx => ?_, fun x y o hx hy _ _ => ?_, fun x o k hx _ hk => ?_⟩
  · obtain ⟨rfl, rfl, rfl, hgg⟩ := hL ℓ t g m' hmem
    unfold hdrG
    rw [h4]
    obtain ⟨g0, h1, h2⟩ := hg
    refine ⟨g0, h1, fun i hi => ?_⟩
    rw [h2 i hi, hgg i hi]
    refine TellL.one (TellA.row (famF_ψ (hσ1 _ _ (hσ3 i hi)).2.1 ?_))
    rw [hσ3 i hi]; rfl
  · unfold rowsN at hB
    split at hB
    · rename_i k hk
      cases hB
      obtain ⟨h1, h2, h3⟩ := hσ1 x k hk
      refine ⟨h2, h3, lab k, _, by rw [hk]; rfl, hrow k h1, .inr ⟨rfl, rfl⟩⟩
    · cases hB
  · unfold rowsN
    cases hσx : σ x with
    | none => rw [hσx] at hx; cases hx
    | some k => simp
  · cases h1 : σ x with
    | none => rw [h1] at hx; cases hx
    | some k =>
      cases h2 : σ y with
      | none => rw [h2] at hy; cases hy
      | some k' =>
        rw [h1] at hx
        rw [h2] at hy
        simp only [Option.map_some, Option.some.injEq] at hx hy
        have := hlab k k' (hσ1 x k h1).1 (hσ1 y k' h2).1 (hx.trans hy.symm)
        subst this
        exact hσ2 x y k h1 h2
  · cases h1 : σ x with
    | none => rw [h1] at hx; cases hx
    | some i =>
      rw [h1] at hx
      simp only [Option.map_some, Option.some.injEq] at hx
      subst hx
      exact hfar i (hσ1 x i h1).1 k hk
theorem Sub.mat {D : List Nat} {fr fr' : List AV} (lm lmF : LMap) (L : List (Nat × Blk)) (n : Nat) (hd : Nat) (t0 ti : TypeId) (w m : Nat) (c : Nat → List Int) (σ : Nat → Option Nat) (lab lab' : Nat → Nat)
    (hs : (keysB lm L && oldsL L lm) = true) (hm : memH lm n M L) (hL : ∀ ℓ t g m', (ℓ, Blk.hdr t g m') ∈ L → ℓ = hd ∧ t = t0 ∧ m' = m ∧ ∀ k, k < m → g k = [.row (lab' k) w 1])
    (h4 : lmFind lm hd = some (.old hd)) (hg : ∃ g, M hd = some (.hdr t0 g m) ∧ ∀ k, k < m → g k = [.row (lab k) w 1]) (hrow : ∀ k, k < m → M (lab k) = some (.row ti 0 encI (c k)))
    (hσ1 : ∀ x k, σ x = some k → k < m ∧ lmFind lm x = none ∧ Mem.ofL L x = none) (hσ2 : ∀ x y k, σ x = some k → σ y = some k → x = y) (hσ3 : ∀ k, k < m → σ (lab' k) = some k)
    (hlab : ∀ k k', k < m → k' < m → lab k = lab k' → k = k') (hfar : ∀ k, k < m → ∀ y, lmFind lm y = some (.old (lab k)) → Mem.ofL L y = some .dead)
    (hD : ∀ d ∈ D, lmFind lm d = some (.old d)) (hlF : ∀ k y, lmFind lmF k = some y → famF lm (fun x => (σ x).map lab) k = some y) (hf : avRs lmF n fr fr') :
    Sub D fr M fr' (overM L (rowsN ti σ c)) :=
  Sub.gen _ (retell_mat lm L n hd t0 ti w m c σ lab lab' hs hm hL h4 hg hrow hσ1 hσ2 hσ3 hlab hfar) (fun d h => famF_lm d _ (hD d h)) (TellL.by_ n hlF hf)

/-! ### Loops over any memory, whose body may begin in a state told anew -/
structure codeF (P : Program) (tt : TT) (D : List Nat) (c : Code) (fr : List AV) (M : Mem) (Q : APost) : Prop where
  out : ∃ fr' M', Sub D fr M fr' M' ∧ codeK P tt D c fr' M' Q
theorem codeFI {D : List Nat} {c : Code} {fr fr' : List AV} {M M' : Mem} {Q : APost} (hs : Sub D fr M fr' M') (h : codeK P tt D c fr' M' Q) : codeF P tt D c fr M Q := ⟨⟨fr', M', hs, h⟩⟩
theorem Sub.refl (D : List Nat) (fr : List AV) (M : Mem) : Sub D fr M fr M := by
  rw [Sub_iff]
  intro S F ρ0 ρ a w h0 h1 hM hF
  exact ⟨S, ρ, Store.le_refl _, h1, hM, hF⟩
theorem codeFR {D : List Nat} {c : Code} {fr : List AV} {M : Mem} {Q : APost} (h : codeK P tt D c fr M Q) : codeF P tt D c fr M Q := ⟨⟨fr, M, Sub.refl D fr M, h⟩⟩
theorem WPc.loopM {D : List Nat} (hT : TOkB P tt = true) (hm : P.follows .mixedOrders = true) {c : Code} {fr : List AV} {M : Mem} {Q : APost} {X : Type _} (I : X → Prop) (us : X → List (Nat × AV)) (Mf : X → Mem) (μ : X → Nat) (x0 : X) (hi : I x0)
    (h : forceN (modsC c []) fun ms => maskK fr 0 ms fun fr0 => Sub D fr M (setsF fr0 (us x0)) (Mf x0) ∧
      ∀ x, I x → setsK fr0 (us x) fun fr1 => codeF P tt D c fr1 (Mf x) (loopPost D I (fun x => setsF fr0 (us x)) Mf μ x Q)) : WPc P D (.loop c) fr M Q := by
  rw [forceN_eq] at h
  obtain ⟨fr0, h0, h⟩ := maskK_ex _ _ _ _ h
  refine WPc.loop I (fun x => setsF fr0 (us x)) Mf μ x0 hi h0 fun x hx => ?_
  have := h x hx
  rw [setsK_eq] at this
  obtain ⟨fr2, M2, hs, hc⟩ := this.out
  exact WPc.sub hs (codeK_ok hT hm _ _ _ _ hc)
end
end Go.Proofs.Ytgjmbmdaaahmkaa
