/-
  Code, abstractly: what a walk asks of a whole body, up to its loops.
-/
import Derived.Test.YtihligeggkpolaaSymQ
namespace Go.Proofs.Ytihligeggkpolaa

inductive AEx
  | normal
  | exit (id : Nat)
  | ret
def absE : Exit → Option AEx
  | .normal => some .normal
  | .exit id => some (.exit id)
  | .ret => some .ret
  | _ => none
abbrev APost := AEx → List AV → Mem → Prop
def EnvIn (ρ : Env) (D : List Nat) : Prop := ∀ ℓ b, ρ ℓ = some b → ℓ ∈ D

/-- D: the labels that came in with the call: none of them is dropped or renamed -/
structure WPc (P : Program) (D : List Nat) (c : Code) (fr : List AV) (M : Mem) (Q : APost) : Prop where
  out : ∀ S F ρ0 ρ a w, EnvIn ρ0 D → Env.le ρ0 ρ → RepM S F ρ M w → RepF S ρ a fr → c.wp P (fun e a' w' => ∃ x, absE e = some x ∧ After S F ρ0 w (Q x) a' w') a w
theorem WPc_iff {P : Program} {D : List Nat} {c : Code} {fr : List AV} {M : Mem} {Q : APost} : WPc P D c fr M Q ↔ (∀ S F ρ0 ρ a w, EnvIn ρ0 D → Env.le ρ0 ρ → RepM S F ρ M w → RepF S ρ a fr → c.wp P (fun e a' w' => ∃ x, absE e = some x ∧ After S F ρ0 w (Q x) a' w') a w) := ⟨fun h => h.out, fun h => ⟨h⟩⟩
structure drawK (P : Program) (tt : TT) (ops : List Oper) (fr : List AV) (M : Mem) (K : List AV → Mem → Prop) : Prop where
  out : ∃ r, drawB r ops = true ∧ opsK P tt (some r) ops ops fr M K
theorem drawK_iff {P : Program} {tt : TT} {ops : List Oper} {fr : List AV} {M : Mem} {K : List AV → Mem → Prop} : drawK P tt ops fr M K ↔ (∃ r, drawB r ops = true ∧ opsK P tt (some r) ops ops fr M K) := ⟨fun h => h.out, fun h => ⟨h⟩⟩
theorem drawI {P : Program} {tt : TT} {ops : List Oper} {fr : List AV} {M : Mem} {K : List AV → Mem → Prop} (hB : drawB false ops = true) (h : opsK P tt (some false) ops ops fr M K) : drawK P tt ops fr M K := by
  rw [drawK_iff]; exact ⟨_, hB, h⟩
theorem drawR {P : Program} {tt : TT} {ops : List Oper} {fr : List AV} {M : Mem} {K : List AV → Mem → Prop} (hB : drawB true ops = true) (h : opsK P tt (some true) ops ops fr M K) : drawK P tt ops fr M K := by
  rw [drawK_iff]; exact ⟨_, hB, h⟩

def codeK (P : Program) (tt : TT) (D : List Nat) : Code → List AV → Mem → APost → Prop
  | .skip, fr, M, Q => Q .normal fr M
  | .region _ ops draw, fr, M, Q => match draw with
    | false => opsK P tt none ops.toList ops.toList fr M (Q .normal)
    | true => drawK P tt ops.toList fr M (Q .normal)
  | .seq a b, fr, M, Q => codeK P tt D a fr M fun e fr' M' => match e with
    | .normal => codeK P tt D b fr' M' Q
    | .exit i => Q (.exit i) fr' M'
    | .ret => Q .ret fr' M'
  | .cond c x y, fr, M, Q => avK fr c fun u => match u with
    | .bool true => codeK P tt D x fr M Q
    | .bool false => codeK P tt D y fr M Q
    | _ => False
  | .block id c, fr, M, Q => codeK P tt D c fr M fun e fr' M' => match e with
    | .normal => Q .normal fr' M'
    | .exit i => match Nat.beq i id with
      | true => Q .normal fr' M'
      | false => Q (.exit i) fr' M'
    | .ret => Q .ret fr' M'
  | .exit id, fr, M, Q => Q (.exit id) fr M
  | .ret, fr, M, Q => Q .ret fr M
  | .loop c, fr, M, Q => WPc P D (.loop c) fr M Q
  | .rangeFunc f ps as c, fr, M, Q => WPc P D (.rangeFunc f ps as c) fr M Q
  | .scope c, fr, M, Q => WPc P D (.scope c) fr M Q
  | .label l, fr, M, Q => WPc P D (.label l) fr M Q
  | .goto l, fr, M, Q => WPc P D (.goto l) fr M Q
  | .refuse s, fr, M, Q => WPc P D (.refuse s) fr M Q

section
variable {P : Program} {tt : TT} {D : List Nat}

theorem WPc.mono {c : Code} {fr : List AV} {M : Mem} {Q Q' : APost} (h : WPc P D c fr M Q) (hq : ∀ e f M, Q e f M → Q' e f M) : WPc P D c fr M Q' := by
  simp only [WPc_iff] at *
  intro S F ρ0 ρ a w h0 h1 hM hF
  exact wp_mono (h S F ρ0 ρ a w h0 h1 hM hF) fun e a' w' ⟨x, hx, ha⟩ => ⟨x, hx, ha.mono fun f M => hq x f M⟩

theorem codeK_ok (hT : TOkB P tt = true) (hm : P.follows .mixedOrders = true) : ∀ (c : Code) (fr : List AV) (M : Mem) (Q : APost), codeK P tt D c fr M Q → WPc P D c fr M Q := by
  intro c
  induction c with
  | skip =>
    intro fr M Q h
    rw [WPc_iff]
    intro S F ρ0 ρ a w h0 h1 hM hF
    exact wp_skip ⟨.normal, rfl, fr, M, S, ρ, h, Store.le_refl _, h1, hM, hF, Wle.refl _⟩
  | region id ops draw =>
    intro fr M Q h
    rw [WPc_iff]
    intro S F ρ0 ρ a w h0 h1 hM hF
    simp only [codeK] at h
    have hQ : ∀ a' w', After S F ρ w (Q .normal) a' w' → ∃ x, absE .normal = some x ∧ After S F ρ0 w (Q x) a' w' := fun a' w' ⟨f, M', S', ρ', k, k1, k2, k3⟩ => ⟨.normal, rfl, f, M', S', ρ', k, k1, Env.le_trans h1 k2, k3⟩
    have e : ops = ops.toList.toArray := by simp
    cases draw with
    | false =>
      rw [e]
      exact wp_region_lit (opsK_ok hT ops.toList S ρ w a fr M h hM hF hQ)
    | true =>
      simp only at h
      rw [drawK_iff] at h
      rw [e]
      obtain ⟨r, h1, h2⟩ := h
      exact draw_region hT hm h1 h2 hM hF hQ
  | seq x y ihx ihy =>
    intro fr M Q h
    have hx := ihx fr M _ h
    simp only [WPc_iff] at *
    intro S F ρ0 ρ a w h0 h1 hM hF
    refine wp_seq (wp_mono (hx S F ρ0 ρ a w h0 h1 hM hF) ?_)
    rintro e a' w' ⟨ex, he, f, M', S', ρ', k, k1, k2, k3, k4, k5⟩
    cases e with
    | normal =>
      cases he
      refine wp_mono (ihy f M' Q k S' F ρ0 ρ' a' w' h0 k2 k3 k4) ?_
      rintro e2 a2 w2 ⟨ex2, he2, ha⟩
      exact ⟨ex2, he2, ha.trans k1 (Env.le_refl _) k5⟩
    | exit i => cases he; exact ⟨_, rfl, f, M', S', ρ', k, k1, k2, k3, k4, k5⟩
    | ret => cases he; exact ⟨_, rfl, f, M', S', ρ', k, k1, k2, k3, k4, k5⟩
    | goto l => cases he
    | panic l => cases he
    | outgrown => cases he
  | cond c x y ihx ihy =>
    intro fr M Q h
    simp only [codeK, avK_eq] at h
    rw [WPc_iff]
    intro S F ρ0 ρ a w h0 h1 hM hF
    have hc := hF.eval c
    split at h
    · rename_i hb
      rw [hb] at hc
      have := ihx fr M Q h
      rw [WPc_iff] at this
      exact wp_cond_true hc.bool_inv (this S F ρ0 ρ a w h0 h1 hM hF)
    · rename_i hb
      rw [hb] at hc
      have := ihy fr M Q h
      rw [WPc_iff] at this
      exact wp_cond_false hc.bool_inv (this S F ρ0 ρ a w h0 h1 hM hF)
    · exact h.elim
  | block id c ih =>
    intro fr M Q h
    have hx := ih fr M _ h
    simp only [WPc_iff] at *
    intro S F ρ0 ρ a w h0 h1 hM hF
    refine wp_block (wp_mono (hx S F ρ0 ρ a w h0 h1 hM hF) ?_)
    rintro e a' w' ⟨ex, he, f, M', S', ρ', k, k1, k2, k3, k4, k5⟩
    cases e with
    | normal => cases he; exact ⟨_, rfl, f, M', S', ρ', k, k1, k2, k3, k4, k5⟩
    | exit i =>
      cases he
      simp only [Exit.inBlock]
      simp only at k
      split at k
      · rename_i hb
        rw [if_pos (Nat.eq_of_beq_eq_true hb)]
        exact ⟨_, rfl, f, M', S', ρ', k, k1, k2, k3, k4, k5⟩
      · rename_i hb
        rw [if_neg (fun e => by subst e; simp at hb)]
        exact ⟨_, rfl, f, M', S', ρ', k, k1, k2, k3, k4, k5⟩
    | ret => cases he; exact ⟨_, rfl, f, M', S', ρ', k, k1, k2, k3, k4, k5⟩
    | goto l => cases he
    | panic l => cases he
    | outgrown => cases he
  | exit id =>
    intro fr M Q h
    rw [WPc_iff]
    intro S F ρ0 ρ a w h0 h1 hM hF
    exact wp_exit ⟨_, rfl, fr, M, S, ρ, h, Store.le_refl _, h1, hM, hF, Wle.refl _⟩
  | ret =>
    intro fr M Q h
    rw [WPc_iff]
    intro S F ρ0 ρ a w h0 h1 hM hF
    exact wp_ret ⟨_, rfl, fr, M, S, ρ, h, Store.le_refl _, h1, hM, hF, Wle.refl _⟩
  | loop c _ => intro fr M Q h; exact h
  | rangeFunc f ps as c _ _ => intro fr M Q h; exact h
  | scope c _ => intro fr M Q h; exact h
  | label l => intro fr M Q h; exact h
  | goto l => intro fr M Q h; exact h
  | refuse s => intro fr M Q h; exact h

/-- a state may be told with less, or by other labels -/
structure Sub (D : List Nat) (fr : List AV) (M : Mem) (fr' : List AV) (M' : Mem) : Prop where
  out : ∀ S F ρ0 ρ a w, EnvIn ρ0 D → Env.le ρ0 ρ → RepM S F ρ M w → RepF S ρ a fr → ∃ S' ρ', S.le S' ∧ Env.le ρ0 ρ' ∧ RepM S' F ρ' M' w ∧ RepF S' ρ' a fr'
theorem Sub_iff {D : List Nat} {fr : List AV} {M : Mem} {fr' : List AV} {M' : Mem} : Sub D fr M fr' M' ↔ (∀ S F ρ0 ρ a w, EnvIn ρ0 D → Env.le ρ0 ρ → RepM S F ρ M w → RepF S ρ a fr → ∃ S' ρ', S.le S' ∧ Env.le ρ0 ρ' ∧ RepM S' F ρ' M' w ∧ RepF S' ρ' a fr') := ⟨fun h => h.out, fun h => ⟨h⟩⟩

theorem WPc.sub {c : Code} {fr fr' : List AV} {M M' : Mem} {Q : APost} (hs : Sub D fr M fr' M') (h : WPc P D c fr' M' Q) : WPc P D c fr M Q := by
  simp only [WPc_iff, Sub_iff] at *
  intro S F ρ0 ρ a w h0 h1 hM hF
  obtain ⟨S', ρ', k1, k2, k3, k4⟩ := hs S F ρ0 ρ a w h0 h1 hM hF
  refine wp_mono (h S' F ρ0 ρ' a w h0 k2 k3 k4) ?_
  rintro e a' w' ⟨x, hx, ha⟩
  exact ⟨x, hx, ha.trans k1 (Env.le_refl _) (Wle.refl _)⟩

def loopPost {X : Type _} (D : List Nat) (I : X → Prop) (frI : X → List AV) (MI : X → Mem) (μ : X → Nat) (x : X) (Q : APost) : APost := fun e fr M => match e with
  | .normal => ∃ x', Sub D fr M (frI x') (MI x') ∧ I x' ∧ μ x' < μ x
  | .exit i => Q (.exit i) fr M
  | .ret => Q .ret fr M

/-- a loop: the states at its head are frI x, MI x -/
theorem WPc.loop {c : Code} {fr : List AV} {M : Mem} {Q : APost} {X : Type _} (I : X → Prop) (frI : X → List AV) (MI : X → Mem) (μ : X → Nat) (x0 : X) (hi : I x0) (h0 : Sub D fr M (frI x0) (MI x0))
    (h : ∀ x, I x → WPc P D c (frI x) (MI x) (loopPost D I frI MI μ x Q)) : WPc P D (.loop c) fr M Q := by
  refine WPc.sub h0 ?_
  rw [WPc_iff]
  intro S F ρ0 ρ a w hin h1 hM hF
  -- the invariant speaks of some x; its measure is a number that the state bears
  have key : ∀ (n : Nat) (x : X) (S1 : Store) (ρ1 : Env) (a1 : Act) (w1 : World), μ x = n → I x → S.le S1 → Wle w w1 → Env.le ρ0 ρ1 → RepM S1 F ρ1 (MI x) w1 → RepF S1 ρ1 a1 (frI x) →
      ∀ b k cs, ∃ e a' w', (∃ x, absE e = some x ∧ After S F ρ0 w (Q x) a' w') ∧ Arrives P (lone (b.at a1 (.code c :: .inLoop c :: k)) cs w1) b k cs e a' w' := by
    intro n
    induction n using Nat.strongRecOn with
    | _ n ih =>
      intro x S1 ρ1 a1 w1 hn hIx hS hw hρ hM1 hF1 b k cs
      have hx := h x hIx
      rw [WPc_iff] at hx
      obtain ⟨e, a2, w2, ⟨ex, he, f, M', S2, ρ2, kk, k1, k2, k3, k4, k5⟩, harr⟩ := hx S1 F ρ0 ρ1 a1 w1 hin hρ hM1 hF1 b (.inLoop c :: k) cs
      cases e with
      | normal =>
        cases he
        obtain ⟨x', hsub, hIx', hlt⟩ := kk
        rw [Sub_iff] at hsub
        obtain ⟨S3, ρ3, j1, j2, j3, j4⟩ := hsub S2 F ρ0 ρ2 a2 w2 hin k2 k3 k4
        obtain ⟨e3, a3, w3, hq, harr3⟩ := ih (μ x') (hn ▸ hlt) x' S3 ρ3 a2 w2 rfl hIx' (Store.le_trans hS (Store.le_trans k1 j1)) (hw.trans k5) j2 j3 j4 b k cs
        exact ⟨e3, a3, w3, hq, .of_steps (Steps.trans harr (.one step_inLoop)) harr3⟩
      | exit i => cases he; exact ⟨_, a2, w2, ⟨_, rfl, f, M', S2, ρ2, kk, Store.le_trans hS k1, k2, k3, k4, hw.trans k5⟩, .pass (x := .inLoop c) rfl (fun _ _ => .inl (by simp)) harr⟩
      | ret => cases he; exact ⟨_, a2, w2, ⟨_, rfl, f, M', S2, ρ2, kk, Store.le_trans hS k1, k2, k3, k4, hw.trans k5⟩, .pass (x := .inLoop c) rfl (fun _ _ => .inl (by simp)) harr⟩
      | goto l => cases he
      | panic l => cases he
      | outgrown => cases he
  intro b k cs
  obtain ⟨e, a', w', hq, harr⟩ := key _ x0 S ρ a w rfl hi (Store.le_refl _) (Wle.refl _) h1 hM hF b k cs
  exact ⟨e, a', w', hq, .of_steps (.one step_loop) harr⟩

def loopPost2 {X Y : Type _} (D : List Nat) (I : X → Y → Prop) (frI : X → Y → List AV) (MI : X → Y → Mem) (μ : X → Y → Nat) (x : X) (y : Y) (Q : APost) : APost := fun e fr M => match e with
  | .normal => ∃ x' y', Sub D fr M (frI x' y') (MI x' y') ∧ I x' y' ∧ μ x' y' < μ x y
  | .exit i => Q (.exit i) fr M
  | .ret => Q .ret fr M
theorem WPc.loop2 {c : Code} {fr : List AV} {M : Mem} {Q : APost} {X Y : Type _} (I : X → Y → Prop) (frI : X → Y → List AV) (MI : X → Y → Mem) (μ : X → Y → Nat) (x0 : X) (y0 : Y) (hi : I x0 y0) (h0 : Sub D fr M (frI x0 y0) (MI x0 y0))
    (h : ∀ x y, I x y → WPc P D c (frI x y) (MI x y) (loopPost2 D I frI MI μ x y Q)) : WPc P D (.loop c) fr M Q :=
  WPc.loop (X := X × Y) (fun z => I z.1 z.2) (fun z => frI z.1 z.2) (fun z => MI z.1 z.2) (fun z => μ z.1 z.2) (x0, y0) hi h0 fun z hz => (h z.1 z.2 hz).mono fun e f M hh => by
    cases e with
    | normal => obtain ⟨x', y', a, b, c⟩ := hh; exact ⟨(x', y'), a, b, c⟩
    | exit i => exact hh
    | ret => exact hh
def loopPost3 {X Y Z : Type _} (D : List Nat) (I : X → Y → Z → Prop) (frI : X → Y → Z → List AV) (MI : X → Y → Z → Mem) (μ : X → Y → Z → Nat) (x : X) (y : Y) (z : Z) (Q : APost) : APost := fun e fr M => match e with
  | .normal => ∃ x' y' z', Sub D fr M (frI x' y' z') (MI x' y' z') ∧ I x' y' z' ∧ μ x' y' z' < μ x y z
  | .exit i => Q (.exit i) fr M
  | .ret => Q .ret fr M
theorem WPc.loop3 {c : Code} {fr : List AV} {M : Mem} {Q : APost} {X Y Z : Type _} (I : X → Y → Z → Prop) (frI : X → Y → Z → List AV) (MI : X → Y → Z → Mem) (μ : X → Y → Z → Nat) (x0 : X) (y0 : Y) (z0 : Z) (hi : I x0 y0 z0) (h0 : Sub D fr M (frI x0 y0 z0) (MI x0 y0 z0))
    (h : ∀ x y z, I x y z → WPc P D c (frI x y z) (MI x y z) (loopPost3 D I frI MI μ x y z Q)) : WPc P D (.loop c) fr M Q :=
  WPc.loop (X := X × Y × Z) (fun z => I z.1 z.2.1 z.2.2) (fun z => frI z.1 z.2.1 z.2.2) (fun z => MI z.1 z.2.1 z.2.2) (fun z => μ z.1 z.2.1 z.2.2) (x0, y0, z0) hi h0 fun z hz => (h z.1 z.2.1 z.2.2 hz).mono fun e f M hh => by
    cases e with
    | normal => obtain ⟨x', y', z', a, b, c⟩ := hh; exact ⟨(x', y', z'), a, b, c⟩
    | exit i => exact hh
    | ret => exact hh

end
end Go.Proofs.Ytihligeggkpolaa
