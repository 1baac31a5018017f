/-
  Calling a function that takes or hands out blocks by label.
-/
import Derived.Test.YtihligeggkpolaaSymT
namespace Go.Proofs.Ytihligeggkpolaa

def overM (L : List (Nat × Blk)) (M : Mem) : Mem := fun ℓ => match Mem.ofL L ℓ with
  | some B => some B
  | none => M ℓ
/-- every label that was lent comes back -/
def backB (lm lb : LMap) : Bool := lm.all fun p => match p.2 with
  | .old ℓ => (match lmFind lb ℓ with | some (.old m) => Nat.beq m p.1 | _ => false)
  | .nil _ => true
/-- every label that comes back was lent, or is new -/
def freshB (lm lb : LMap) (M : Mem) : Bool := lb.all fun p => (lm.any fun q => match q.2 with | .old ℓ => Nat.beq ℓ p.1 | .nil _ => false) || (M p.1).isNone

section
variable {S F F2 : Store} {ρ : Env} {M : Mem} {w : World} {P : Program}

theorem BlkRep.reF {b : Lab} {B : Blk} (h : BlkRep S F ρ w b B) (hf : B.live b → F2 b.blk = none) : BlkRep S F2 ρ w b B := by
  cases B with
  | box t cells => obtain ⟨vs, h1, h2, h3, h4⟩ := h; exact ⟨vs, h1, h2, h3, hf trivial⟩
  | row t d enc l =>
    obtain ⟨h1, h2, h3⟩ := h
    exact ⟨h1, h2, h3.imp id fun ⟨hn, hc, vs, h4, h5, h6, h7, h8⟩ => ⟨hn, hc, vs, h4, h5, h6, h7, hf hn⟩⟩
  | gone d enc l => exact h
  | dead => trivial
theorem RepM.reF (hM : RepM S F ρ M w) (h1 : F2.inW w) (h2 : ∀ k, S k = none ∨ F2 k = none) (h3 : ∀ ℓ B b, M ℓ = some B → ρ ℓ = some b → B.live b → F2 b.blk = none) : RepM S F2 ρ M w :=
  ⟨hM.sw, h1, h2, hM.dom, fun ℓ B hB => let ⟨b, hb, hr⟩ := hM.blk ℓ B hB; ⟨b, hb, hr.reF (h3 ℓ B b hB hb)⟩, hM.inj⟩

theorem lmFind_of_mem : ∀ {lm : LMap}, distB lm = true → ∀ {ℓ : Nat} {x : LM}, (ℓ, x) ∈ lm → lmFind lm ℓ = some x
  | [], _, _, _, h => by cases h
  | (k, y) :: r, hd, ℓ, x, h => by
    simp only [distB, Bool.and_eq_true] at hd
    simp only [lmFind]
    rcases List.mem_cons.1 h with e | h
    · injection e with e1 e2; subst e1; subst e2; simp
    · have := List.all_eq_true.1 hd.1 _ h
      simp only [Bool.not_eq_true'] at this
      have hne : Nat.beq k ℓ = false := by
        cases hb : Nat.beq k ℓ
        · rfl
        · have := Nat.eq_of_beq_eq_true hb; subst this; simp at *
      rw [hne]
      exact lmFind_of_mem hd.2 h

theorem Spec.call {f : FuncId} {args args' : List AV} {K R : AV → Mem → Prop} (lm : LMap) (L : List (Nat × Blk)) (n : Nat) (hs : (keysB lm L && oldsB lm && distB lm) = true) (hm : memR lm n M L) (ha : avRs lm n args args')
    (h : Spec P f args' (Mem.ofL L) R)
    (hk : ∀ u M', R u M' → ∃ (lb : LMap) (L2 : List (Nat × Blk)) (u' : AV), (keysB lb L2 && oldsB lb && backB lm lb && freshB lm lb M) = true ∧ memR lb n M' L2 ∧ avR lb n u u' ∧ K u' (overM L2 M)) : Spec P f args M K := by
  rw [Spec_iff] at h ⊢
  refine ⟨h.1, fun S F ρ vs w hM hv => ?_⟩
  simp only [Bool.and_eq_true] at hs
  obtain ⟨⟨hs1, hs2⟩, hs3⟩ := hs
  let own : Nat → Prop := fun ℓ => ∃ ℓ', lmFind lm ℓ' = some (.old ℓ)
  have hMr := hM.relabel hm hs1 hs2
  have hlive : ∀ ℓ' B' b, Mem.ofL L ℓ' = some B' → lmEnv lm ρ ℓ' = some b → B'.live b → keepF F ρ M w own b.blk = none := by
    intro ℓ' B' b hB' hb hl
    obtain ⟨b', hb', hr'⟩ := hMr.blk _ _ hB'
    rw [hb] at hb'; cases hb'
    have hFb := (hr'.off hl).2
    have hh := memR_mem hm ℓ' B' (ofL_mem hB')
    unfold lmEnv at hb
    cases hf : lmFind lm ℓ' with
    | none => rw [hf] at hb; cases hb
    | some x =>
      rw [hf] at hb hh
      cases x with
      | nil sz =>
        simp only [Option.some.injEq] at hb
        subst hb
        simp only at hh
        split at hh
        · simp [Blk.live] at hl
        · exact hh.elim
      | old ℓ =>
        simp only at hb hh
        have hB : ∃ B, M ℓ = some B ∧ B.live b := by
          unfold blkR at hh
          split at hh
          · exact hh.elim
          · rename_i hML; exact ⟨_, hML, trivial⟩
          · rename_i hML; exact ⟨_, hML, by rw [hh]; exact hl⟩
          · exact hl.elim
          · exact hh.elim
        obtain ⟨B, hML, hBl⟩ := hB
        unfold keepF
        rw [if_neg]
        · exact hFb
        · rintro ⟨y, C, c, h1, h2, h3, h4, h5⟩
          refine hM.inj y ℓ C B c b h1 hML h2 hb h3 hBl (fun e => ?_) h4
          subst e
          exact h5 ⟨ℓ', hf⟩
  have hMc := hMr.reF (keepF_inW (own := own) hM) (keepF_sf hM) hlive
  refine (h.2 S (keepF F ρ M w own) (lmEnv lm ρ) vs w hMc ((avR_ok n).2 args args' vs ha hv)).mono ?_
  rintro e w' ⟨v, u, M', S', ρ', rfl, hR, hle, hρ, hM', hr, hw⟩
  obtain ⟨lb, L2, u', hb, hm2, hau, hK⟩ := hk u M' hR
  simp only [Bool.and_eq_true] at hb
  obtain ⟨⟨⟨hb1, hb2⟩, hb3⟩, hb4⟩ := hb
  have hM2 := hM'.relabel hm2 hb1 hb2
  let ρ2 : Env := fun ℓ => match lmEnv lb ρ' ℓ with
    | some b => some b
    | none => ρ ℓ
  have hle1 : Env.le (lmEnv lb ρ') ρ2 := fun ℓ b hb => by show (match lmEnv lb ρ' ℓ with | some b => some b | none => ρ ℓ) = _; rw [hb]
  -- the labels that were lent are the same behind the call
  have hback : ∀ ℓ ℓ', lmFind lm ℓ' = some (.old ℓ) → lmFind lb ℓ = some (.old ℓ') := by
    intro ℓ ℓ' hf
    have := List.all_eq_true.1 hb3 _ (lmFind_mem hf)
    simp only at this
    split at this
    · rename_i m hm'
      rw [hm', Nat.eq_of_beq_eq_true this]
    · cases this
  have hle2 : Env.le ρ ρ2 := by
    intro ℓ b hb
    show (match lmEnv lb ρ' ℓ with | some b => some b | none => ρ ℓ) = _
    cases hf : lmFind lb ℓ with
    | none => have : lmEnv lb ρ' ℓ = none := by unfold lmEnv; rw [hf]
              rw [this]; exact hb
    | some x =>
      have := List.all_eq_true.1 hb4 _ (lmFind_mem hf)
      simp only [Bool.or_eq_true] at this
      rcases this with h1 | h1
      · obtain ⟨q, hq, hq2⟩ := List.any_eq_true.1 h1
        obtain ⟨k, y⟩ := q
        cases y with
        | nil _ => cases hq2
        | old m =>
          simp only at hq2
          have := Nat.eq_of_beq_eq_true hq2
          subst this
          have hfl := lmFind_of_mem hs3 hq
          have hbk := hback _ _ hfl
          have he : lmEnv lm ρ k = some b := by unfold lmEnv; rw [hfl]; exact hb
          have h2 : lmEnv lb ρ' m = some b := by unfold lmEnv; rw [hbk]; exact hρ _ _ he
          rw [h2]
      · exfalso
        have hn : M ℓ = none := by cases hh : M ℓ with
          | none => rfl
          | some B => simp [hh] at h1
        exact hM.dom ℓ b hb hn
  have hF : ∀ k o, F k = some o → keepF F ρ M w own k = some o := keepF_le hM
  have framed : ∀ ℓ B b, Mem.ofL L2 ℓ = none → M ℓ = some B → ρ ℓ = some b → B.live b → keepF F ρ M w own b.blk = w.heap[b.blk]? := by
    intro ℓ B b h0 h1 h2 h3
    refine keepF_live h1 h2 h3 fun ⟨ℓ', hf⟩ => ?_
    have := List.all_eq_true.1 hb1 _ (lmFind_mem (hback _ _ hf))
    simp only at this
    rw [h0] at this; cases this
  refine ⟨v, u', overM L2 M, S', ρ2, rfl, hK, hle, hle2, ⟨hM'.sw, fun k o hk => hM'.fw k o (hF k o hk), fun k => ?_, fun ℓ b hb => ?_, fun ℓ B hB => ?_, fun x y B C b c h1 h2 h3 h4 h5 h6 hne => ?_⟩, ((avR_ok n).1 u u' v hau hr).mono (Store.le_refl _) hle1, hw⟩
  · rcases hM'.sf k with h1 | h1
    · exact .inl h1
    · right
      cases hk : F k with
      | none => rfl
      | some o => rw [hF k o hk] at h1; cases h1
  · unfold overM
    cases h2 : Mem.ofL L2 ℓ with
    | some B => simp
    | none =>
      have hb : (match lmEnv lb ρ' ℓ with | some b => some b | none => ρ ℓ) = some b := hb
      cases h3 : lmEnv lb ρ' ℓ with
      | some b' => exact absurd h2 (hM2.dom _ _ h3)
      | none => rw [h3] at hb; exact hM.dom _ _ hb
  · unfold overM at hB
    cases h2 : Mem.ofL L2 ℓ with
    | some B' =>
      rw [h2] at hB
      cases hB
      obtain ⟨b, hb, hr2⟩ := hM2.blk _ _ h2
      refine ⟨b, hle1 _ _ hb, (hr2.keep (Store.le_refl _) hle1 fun _ => ⟨rfl, rfl⟩).reF fun hl => ?_⟩
      have := (hr2.off hl).2
      cases hk : F b.blk with
      | none => rfl
      | some o => rw [hF _ o hk] at this; cases this
    | none =>
      rw [h2] at hB
      obtain ⟨b, hb, hr2⟩ := hM.blk _ _ hB
      refine ⟨b, hle2 _ _ hb, hr2.keep hle hle2 fun hl => ?_⟩
      have hk := framed ℓ B b h2 hB hb hl
      obtain ⟨o, ho⟩ : ∃ o, w.heap[b.blk]? = some o := ⟨_, Array.getElem?_eq_getElem (hr2.lt hl)⟩
      refine ⟨by rw [hM'.fw _ o (hk.trans ho), ho], ?_⟩
      rw [(hr2.off hl).1]
      rcases hM'.sf b.blk with h1 | h1
      · exact h1
      · rw [hk, ho] at h1; cases h1
  · have back : ∀ z D d, overM L2 M z = some D → ρ2 z = some d → D.live d → (Mem.ofL L2 z = some D ∧ lmEnv lb ρ' z = some d) ∨ (Mem.ofL L2 z = none ∧ M z = some D ∧ ρ z = some d) := by
      intro z D d hD hd hl
      unfold overM at hD
      cases hz : Mem.ofL L2 z with
      | some D' =>
        rw [hz] at hD; cases hD
        obtain ⟨b', hb', _⟩ := hM2.blk _ _ hz
        have := hle1 _ _ hb'
        rw [hd] at this; cases this
        exact .inl ⟨rfl, hb'⟩
      | none =>
        rw [hz] at hD
        obtain ⟨b', hb', _⟩ := hM.blk _ _ hD
        have := hle2 _ _ hb'
        rw [hd] at this; cases this
        exact .inr ⟨rfl, hD, hb'⟩
    have mixed : ∀ z D d z' D' d', Mem.ofL L2 z = some D → lmEnv lb ρ' z = some d → D.live d → Mem.ofL L2 z' = none → M z' = some D' → ρ z' = some d' → D'.live d' → d.blk ≠ d'.blk := by
      intro z D d z' D' d' a1 a2 a3 a4 a5 a6 a7 e
      obtain ⟨b', hb', hr2⟩ := hM2.blk _ _ a1
      rw [a2] at hb'; cases hb'
      have h1 := (hr2.off a3).2
      have h2 := framed z' D' d' a4 a5 a6 a7
      obtain ⟨c', hc', hr3⟩ := hM.blk _ _ a5
      rw [a6] at hc'; cases hc'
      rw [e, h2, Array.getElem?_eq_getElem (hr3.lt a7)] at h1
      cases h1
    rcases back x B b h1 h3 h5 with ⟨p1, p2⟩ | ⟨p0, p1, p2⟩ <;> rcases back y C c h2 h4 h6 with ⟨q1, q2⟩ | ⟨q0, q1, q2⟩
    · exact hM2.inj x y B C b c p1 q1 p2 q2 h5 h6 hne
    · exact mixed x B b y C c p1 p2 h5 q0 q1 q2 h6
    · exact fun e => mixed y C c x B b q1 q2 h6 p0 p1 p2 h5 e.symm
    · exact hM.inj x y B C b c p1 q1 p2 q2 h5 h6 hne
/-- a row among the arguments is handed over for good -/
def swapRow (ℓ : Nat) (u : AV) : AV → AV
  | .row ℓ' n sz => match Nat.beq ℓ' ℓ with | true => u | false => .row ℓ' n sz
  | v => v
theorem swapRow_ok {ℓ : Nat} {α : Type} {d : α} {enc : α → List AV} {l : List α} (hM : RepM S F ρ M w) (hl : M ℓ = some (.gone d enc l)) {v : Value} {u : AV} (h : RV S ρ v u) : RV S ρ v (swapRow ℓ (.sl d enc l) u) := by
  unfold swapRow
  split
  · rename_i ℓ' n sz
    split
    · rename_i hb
      have := Nat.eq_of_beq_eq_true hb
      subst this
      obtain ⟨b, hb, _, _, _, rfl⟩ := h.row_inv
      obtain ⟨b', hb', _, hr⟩ := hM.blk _ _ hl
      rw [hb] at hb'; cases hb'
      exact .p hr
    · exact h
  · exact h
theorem Spec.hand {f : FuncId} {args : List AV} {R : AV → Mem → Prop} (ℓ : Nat) {t : TypeId} {α : Type} {d : α} {enc : α → List AV} {l : List α} (hl : M ℓ = some (.row t d enc l))
    (h : Spec P f (args.map (swapRow ℓ (.sl d enc l))) (M.set ℓ (.gone d enc l)) R) : Spec P f args M R := by
  refine Spec.leak hl (Spec.weaken h fun S F ρ vs w hM hv => ⟨by simpa using hv.1, fun i u hu => ?_⟩)
  rw [List.getElem?_map] at hu
  obtain ⟨u0, h0, rfl⟩ := Option.map_eq_some_iff.1 hu
  obtain ⟨v, e, hr⟩ := hv.2 i u0 h0
  exact ⟨v, e, swapRow_ok hM (Mem.set_eq _ _ _) hr⟩
end

end Go.Proofs.Ytihligeggkpolaa
