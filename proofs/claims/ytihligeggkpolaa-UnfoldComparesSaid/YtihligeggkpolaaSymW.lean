/-
  A loop whose frame at the head is the frame before it, but for what its body writes.
-/
import Derived.Test.YtihligeggkpolaaSymV
namespace Go.Proofs.Ytihligeggkpolaa

def modsOps : List Oper → List Nat → List Nat
  | [], r => r
  | o :: l, r => match o.dst with
    | some d => d :: modsOps l r
    | none => modsOps l r
def modsC : Code → List Nat → List Nat
  | .region _ ops _, r => modsOps ops.toList r
  | .seq a b, r => modsC a (modsC b r)
  | .cond _ a b, r => modsC a (modsC b r)
  | .block _ a, r => modsC a r
  | .loop a, r => modsC a r
  | .rangeFunc _ ps a b, r => ps.toList ++ modsC a (modsC b r)
  | .scope a, r => modsC a r
  | _, r => r
def forceN : List Nat → (List Nat → Prop) → Prop
  | [], k => k []
  | n :: l, k => forceN l fun l' => k (n :: l')
theorem forceN_eq : ∀ (l : List Nat) (k : List Nat → Prop), forceN l k = k l
  | [], _ => rfl
  | n :: l, k => by rw [forceN, forceN_eq l]
def hasN : List Nat → Nat → Bool
  | [], _ => false
  | n :: l, i => match Nat.beq n i with | true => true | false => hasN l i
/-- what the body writes is not known -/
def maskK : List AV → Nat → List Nat → (List AV → Prop) → Prop
  | [], _, _, k => k []
  | u :: fr, i, ms, k => match hasN ms i with
    | true => maskK fr (Nat.succ i) ms fun r => k (.top :: r)
    | false => match u with
      | .tup _ => maskK fr (Nat.succ i) ms fun r => k (.top :: r)
      | u => maskK fr (Nat.succ i) ms fun r => k (u :: r)
theorem maskK_ex : ∀ (fr : List AV) (i : Nat) (ms : List Nat) (k : List AV → Prop), maskK fr i ms k → ∃ fr0, k fr0
  | [], _, _, k, h => ⟨[], h⟩
  | u :: fr, i, ms, k, h => by
    unfold maskK at h
    split at h
    · obtain ⟨r, hr⟩ := maskK_ex fr _ _ _ h; exact ⟨_, hr⟩
    · split at h
      · obtain ⟨r, hr⟩ := maskK_ex fr _ _ _ h; exact ⟨_, hr⟩
      · obtain ⟨r, hr⟩ := maskK_ex fr _ _ _ h; exact ⟨_, hr⟩
def setsF : List AV → List (Nat × AV) → List AV
  | fr, [] => fr
  | fr, (i, u) :: us => setsF (fr.set i u) us
def setsK : List AV → List (Nat × AV) → (List AV → Prop) → Prop
  | fr, [], k => k fr
  | fr, (i, u) :: us, k => putK fr i u fun fr' => setsK fr' us k
theorem setsK_eq : ∀ (us : List (Nat × AV)) (fr : List AV) (k : List AV → Prop), setsK fr us k = k (setsF fr us)
  | [], _, _ => rfl
  | (i, u) :: us, fr, k => by rw [setsK, putK_eq, setsK_eq us]; rfl

/-- every label is its own -/
def idL (L : List (Nat × Blk)) : LMap := L.map fun p => (p.1, .old p.1)
theorem Sub.id_ {D : List Nat} {fr fr' : List AV} {M : Mem} {L : List (Nat × Blk)} (n : Nat) (hs : (keysB (idL L) L && oldsB (idL L) && keepB (idL L) D) = true) (hm : memR (idL L) n M L) (hf : avRs (idL L) n fr fr') : Sub D fr M fr' (Mem.ofL L) :=
  Sub.by_ (idL L) L n hs hm hf

/-- what a call leaves, told by the labels that it got -/
theorem Spec.norm {P : Program} {f : FuncId} {args : List AV} {L0 : List (Nat × Blk)} {R R' : AV → Mem → Prop} (n : Nat) (h : Spec P f args (Mem.ofL L0) R)
    (hk : ∀ u M', R u M' → ∃ (L : List (Nat × Blk)) (u' : AV), (keysB (idL L) L && oldsB (idL L) && keepB (idL L) (L0.map (·.1))) = true ∧ memR (idL L) n M' L ∧ avR (idL L) n u u' ∧ R' u' (Mem.ofL L)) : Spec P f args (Mem.ofL L0) R' := by
  rw [Spec_iff] at h ⊢
  refine ⟨h.1, fun S F ρ vs w hM hv => (h.2 S F ρ vs w hM hv).mono ?_⟩
  rintro e w' ⟨v, u, M', S', ρ', rfl, hR, hle, hρ, hM', hr, hw⟩
  obtain ⟨L, u', hb, hm, ha, hR'⟩ := hk u M' hR
  simp only [Bool.and_eq_true] at hb
  obtain ⟨⟨hb1, hb2⟩, hb3⟩ := hb
  refine ⟨v, u', _, S', lmEnv (idL L) ρ', rfl, hR', hle, fun ℓ b hb => ?_, hM'.relabel hm hb1 hb2, (avR_ok n).1 u u' v ha hr, hw⟩
  have hd := hM.dom ℓ b hb
  obtain ⟨B, hB⟩ : ∃ B, Mem.ofL L0 ℓ = some B := by
    cases h : Mem.ofL L0 ℓ with
    | none => exact absurd h hd
    | some B => exact ⟨B, rfl⟩
  have hmem := List.mem_map_of_mem (f := (·.1)) (ofL_mem hB)
  have := List.all_eq_true.1 hb3 _ hmem
  simp only at this
  split at this
  · rename_i m hm'
    have := Nat.eq_of_beq_eq_true this
    subst this
    show lmEnv (idL L) ρ' _ = _
    unfold lmEnv
    rw [hm']
    exact hρ _ _ hb
  · cases this

section
variable {P : Program} {tt : TT} {D : List Nat}
theorem WPc.loopF (hT : TOkB P tt = true) (hm : P.follows .mixedOrders = true) {c : Code} {fr : List AV} {M : Mem} {Q : APost} {X : Type _} (I : X → Prop) (us : X → List (Nat × AV)) (L : X → List (Nat × Blk)) (μ : X → Nat) (x0 : X) (hi : I x0)
    (h : forceN (modsC c []) fun ms => maskK fr 0 ms fun fr0 => Sub D fr M (setsF fr0 (us x0)) (Mem.ofL (L x0)) ∧
      ∀ x, I x → setsK fr0 (us x) fun fr1 => codeK P tt D c fr1 (Mem.ofL (L x)) (loopPost D I (fun x => setsF fr0 (us x)) (fun x => Mem.ofL (L x)) μ x Q)) : WPc P D (.loop c) fr M Q := by
  rw [forceN_eq] at h
  obtain ⟨fr0, h0, h⟩ := maskK_ex _ _ _ _ h
  refine WPc.loop I (fun x => setsF fr0 (us x)) (fun x => Mem.ofL (L x)) μ x0 hi h0 fun x hx => ?_
  have := h x hx
  rw [setsK_eq] at this
  exact codeK_ok hT hm _ _ _ _ this
end
end Go.Proofs.Ytihligeggkpolaa
