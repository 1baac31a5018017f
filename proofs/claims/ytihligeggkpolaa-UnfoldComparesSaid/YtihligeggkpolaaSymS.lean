/-
  Telling a state with less, or by other labels: what there is to show, computed.
-/
import Derived.Test.YtihligeggkpolaaSymR
namespace Go.Proofs.Ytihligeggkpolaa

inductive LM
  | old (ℓ : Nat)
  | nil (sz : Nat)
abbrev LMap := List (Nat × LM)
def lmFind : LMap → Nat → Option LM
  | [], _ => none
  | (k, x) :: r, ℓ => match Nat.beq k ℓ with | true => some x | false => lmFind r ℓ
def Mem.ofL : List (Nat × Blk) → Mem
  | [], _ => Option.none
  | (k, B) :: r, ℓ => match Nat.beq k ℓ with | true => some B | false => Mem.ofL r ℓ

mutual
/-- v says no more than u, with v's labels sent back by lm -/
def avR (lm : LMap) : Nat → AV → AV → Prop
  | 0, _, _ => False
  | n + 1, u, v => match v with
    | .top => True
    | .ptr ℓ' o' => match u with
      | .ptr ℓ o => match lmFind lm ℓ' with
        | some (.old m) => match Nat.beq m ℓ with | true => o = o' | false => False
        | _ => False
      | _ => False
    | .row ℓ' n' sz' => match u with
      | .row ℓ n sz => match lmFind lm ℓ' with
        | some (.old m) => match Nat.beq m ℓ, Nat.beq sz sz' with
          | true, true => n = n'
          | _, _ => False
        | _ => False
      | .nilsl => match lmFind lm ℓ' with
        | some (.nil sz) => match Nat.beq sz sz' with
          | true => 0 = n'
          | false => False
        | _ => False
      | _ => False
    | .rel ℓ' i' o' => match u with
      | .rel ℓ i o => match lmFind lm ℓ' with
        | some (.old m) => match Nat.beq m ℓ with | true => i = i' ∧ o = o' | false => False
        | _ => False
      | _ => False
    | .fn f' cs' => match u with
      | .fn f cs => match Nat.beq f f' with | true => avRs lm n cs cs' | false => False
      | _ => False
    | .agg cs' => match u with
      | .agg cs => avRs lm n cs cs'
      | _ => False
    | .tup cs' => match u with
      | .tup cs => avRs lm n cs cs'
      | _ => False
    | .int k' m' => match u with
      | .int k m => match Nat.beq (kn k) (kn k') with | true => m = m' | false => False
      | _ => False
    | .bool b' => match u with
      | .bool b => b = b'
      | _ => False
    | .sl d enc l => match u with
      | .nilsl => l = []
      | u => u = .sl d enc l
    | v => u = v
def avRs (lm : LMap) : Nat → List AV → List AV → Prop
  | 0, _, _ => False
  | n + 1, us, vs => match us, vs with
    | [], [] => True
    | u :: us, v :: vs => match v with
      | .top => avRs lm n us vs
      | v => avR lm n u v ∧ avRs lm n us vs
    | _, _ => False
end

def blkR (lm : LMap) (n : Nat) : Option Blk → Blk → Prop
  | _, .dead => False
  | some (.box t cs), .box t' cs' => match Nat.beq t t' with | true => avRs lm n cs cs' | false => False
  | some (.row t d enc l), .row t' d' enc' l' => Blk.row t d enc l = Blk.row t' d' enc' l'
  | some (.gone d enc l), .gone d' enc' l' => Blk.gone d enc l = Blk.gone d' enc' l'
  | _, _ => False
def memR (lm : LMap) (n : Nat) (M : Mem) : List (Nat × Blk) → Prop
  | [] => True
  | (ℓ', B') :: r => (match lmFind lm ℓ' with
    | some (.old ℓ) => blkR lm n (M ℓ) B'
    | some (.nil _) => match B' with
      | .row _ _ _ l => l = []
      | _ => False
    | none => False) ∧ memR lm n M r

def keysB (lm : LMap) (L : List (Nat × Blk)) : Bool := lm.all fun p => (Mem.ofL L p.1).isSome
def oldsB : LMap → Bool
  | [] => true
  | (_, .old ℓ) :: r => r.all (fun p => match p.2 with | .old m => !(Nat.beq m ℓ) | .nil _ => true) && oldsB r
  | (_, .nil _) :: r => oldsB r
def keepB (lm : LMap) (D : List Nat) : Bool := D.all fun d => match lmFind lm d with | some (.old m) => Nat.beq m d | _ => false
def distB : LMap → Bool
  | [] => true
  | (k, _) :: r => r.all (fun p => !(Nat.beq p.1 k)) && distB r

def lmEnv (lm : LMap) (ρ : Env) : Env := fun ℓ' => match lmFind lm ℓ' with
  | some (.old ℓ) => ρ ℓ
  | some (.nil sz) => some ⟨0, 0, 0, sz, true⟩
  | none => none

section
variable {S F : Store} {ρ : Env} {M : Mem} {w : World} {lm : LMap}

theorem avR_ok : ∀ (n : Nat), (∀ (u v : AV) (x : Value), avR lm n u v → RV S ρ x u → RV S (lmEnv lm ρ) x v) ∧ (∀ (us vs : List AV) (xs : List Value), avRs lm n us vs → RVs S ρ xs us → RVs S (lmEnv lm ρ) xs vs) := by
  intro n
  induction n with
  | zero => exact ⟨fun u v x h => by simp [avR] at h, fun us vs xs h => by simp [avRs] at h⟩
  | succ n ih =>
    refine ⟨fun u v x h hx => ?_, fun us vs xs h hx => ?_⟩
    · have pers : ∀ {v : AV}, u = v → (∀ {y}, RV S ρ y v → RP S y v) → RV S (lmEnv lm ρ) x v := fun e hp => by subst e; exact .p (hp hx)
      cases v with
      | top => exact .p (.top _)
      | ptr ℓ' o' =>
        simp only [avR] at h
        split at h
        · split at h
          · rename_i ℓ o m hm
            split at h
            · rename_i hb
              have := Nat.eq_of_beq_eq_true hb
              subst this; subst h
              obtain ⟨b, hb, rfl⟩ := hx.ptr_inv
              exact .ptr _ _ b (by unfold lmEnv; rw [hm]; exact hb)
            · exact h.elim
          · exact h.elim
        · exact h.elim
      | row ℓ' n' sz' =>
        simp only [avR] at h
        split at h
        · split at h
          · rename_i ℓ k sz m hm
            split at h
            · rename_i hb hs
              have := Nat.eq_of_beq_eq_true hb
              subst this
              have := Nat.eq_of_beq_eq_true hs
              subst this; subst h
              obtain ⟨b, hb, h1, h2, h3, rfl⟩ := hx.row_inv
              exact .row _ _ _ b (by unfold lmEnv; rw [hm]; exact hb) h1 h2 h3
            · exact h.elim
          · exact h.elim
        · split at h
          · rename_i sz hm
            split at h
            · rename_i hs
              have := Nat.eq_of_beq_eq_true hs
              subst this; subst h
              rw [hx.nilsl_inv]
              have := RV.row (S := S) (ρ := lmEnv lm ρ) ℓ' 0 sz ⟨0, 0, 0, sz, true⟩ (by unfold lmEnv; rw [hm]) rfl rfl (fun _ => rfl)
              exact this
            · exact h.elim
          · exact h.elim
        · exact h.elim
      | rel ℓ' i' o' =>
        simp only [avR] at h
        split at h
        · split at h
          · rename_i ℓ i o m hm
            split at h
            · rename_i hb
              have := Nat.eq_of_beq_eq_true hb
              subst this
              obtain ⟨rfl, rfl⟩ := h
              obtain ⟨b, hb, h1, rfl⟩ := hx.rel_inv
              exact .rel _ _ _ b (by unfold lmEnv; rw [hm]; exact hb) h1
            · exact h.elim
          · exact h.elim
        · exact h.elim
      | fn f' cs' =>
        simp only [avR] at h
        split at h
        · rename_i f cs
          split at h
          · rename_i hf
            have := Nat.eq_of_beq_eq_true hf
            subst this
            obtain ⟨vs, rfl, hv⟩ := hx.fn_inv
            have := RV.fn_mk f (ih.2 cs cs' vs.toList h hv)
            simpa using this
          · exact h.elim
        · exact h.elim
      | agg cs' =>
        simp only [avR] at h
        split at h
        · rename_i cs
          obtain ⟨vs, rfl, hv⟩ := hx.agg_inv
          have := RV.agg_mk (ih.2 cs cs' vs.toList h hv)
          simpa using this
        · exact h.elim
      | tup cs' =>
        simp only [avR] at h
        split at h
        · rename_i cs
          obtain ⟨vs, rfl, hv⟩ := hx.tup_inv
          have := RV.tup_mk (ih.2 cs cs' vs.toList h hv)
          simpa using this
        · exact h.elim
      | int k' m' =>
        simp only [avR] at h
        split at h
        · split at h
          · rename_i hk
            have := kn_inj hk
            subst this; subst h
            rw [hx.int_inv]
            exact .p (.int _ _)
          · exact h.elim
        · exact h.elim
      | bool b' =>
        simp only [avR] at h
        split at h
        · subst h
          rw [hx.bool_inv]
          exact .p (.bool _)
        · exact h.elim
      | sl d enc l =>
        simp only [avR] at h
        split at h
        · subst h
          rw [hx.nilsl_inv]
          exact .p (.sl d enc [] none 0 0 (fun _ _ => undef) (by simp) (by simp) (by simp) (by simp) (by simp) (by simp))
        · exact pers h fun hy => hy.sl_inv
      | str s => simp only [avR] at h; exact pers h fun hy => by rw [hy.str_inv]; exact .str _
      | nilsl => simp only [avR] at h; exact pers h fun hy => by rw [hy.nilsl_inv]; exact .nilsl
      | val y => simp only [avR] at h; exact pers h fun hy => by rw [hy.val_inv]; exact .val _
      | pd c => simp only [avR] at h; exact pers h fun hy => hy.pd_inv
    · simp only [avRs] at h
      split at h
      · rw [hx.nil_inv]; exact RVs.nil _ _
      · rename_i u us v vs
        obtain ⟨y, ys, rfl, hy, hys⟩ := hx.cons_inv
        split at h
        · exact RVs.cons (.p (.top _)) (ih.2 us vs ys h hys)
        · exact RVs.cons (ih.1 u v y h.1 hy) (ih.2 us vs ys h.2 hys)
      · exact h.elim

theorem ofL_mem : ∀ {L : List (Nat × Blk)} {ℓ : Nat} {B : Blk}, Mem.ofL L ℓ = some B → (ℓ, B) ∈ L
  | [], _, _, h => by simp [Mem.ofL] at h
  | (k, C) :: r, ℓ, B, h => by
    simp only [Mem.ofL] at h
    split at h
    · rename_i hk
      have := Nat.eq_of_beq_eq_true hk
      subst this
      cases h; exact List.mem_cons_self
    · exact List.mem_cons_of_mem _ (ofL_mem h)
theorem memR_mem {n : Nat} : ∀ {L : List (Nat × Blk)}, memR lm n M L → ∀ ℓ' B', (ℓ', B') ∈ L → (match lmFind lm ℓ' with
    | some (.old ℓ) => blkR lm n (M ℓ) B'
    | some (.nil _) => match B' with
      | .row _ _ _ l => l = []
      | _ => False
    | none => False)
  | [], _, _, _, h => by cases h
  | (k, C) :: r, h, ℓ', B', hm => by
    rcases List.mem_cons.1 hm with e | hm
    · injection e with e1 e2; subst e1; subst e2; exact h.1
    · exact memR_mem h.2 ℓ' B' hm
theorem lmFind_mem : ∀ {lm : LMap} {ℓ : Nat} {x : LM}, lmFind lm ℓ = some x → (ℓ, x) ∈ lm
  | [], _, _, h => by simp [lmFind] at h
  | (k, y) :: r, ℓ, x, h => by
    simp only [lmFind] at h
    split at h
    · rename_i hk
      have := Nat.eq_of_beq_eq_true hk
      subst this
      cases h; exact List.mem_cons_self
    · exact List.mem_cons_of_mem _ (lmFind_mem h)
theorem olds_inj : ∀ {lm : LMap}, oldsB lm = true → ∀ {a b ℓ : Nat}, lmFind lm a = some (.old ℓ) → lmFind lm b = some (.old ℓ) → a = b
  | [], _, _, _, _, h, _ => by simp [lmFind] at h
  | (k, x) :: r, ho, a, b, ℓ, ha, hb => by
    have hr : oldsB r = true := by
      cases x with
      | old m => simp only [oldsB, Bool.and_eq_true] at ho; exact ho.2
      | nil _ => simpa only [oldsB] using ho
    have far : ∀ {c : Nat}, x = .old ℓ → lmFind r c = some (.old ℓ) → False := by
      intro c hx hc
      subst hx
      simp only [oldsB, Bool.and_eq_true] at ho
      have := List.all_eq_true.1 ho.1 _ (lmFind_mem hc)
      simp at this
    simp only [lmFind] at ha hb
    split at ha
    · rename_i hka
      split at hb
      · rename_i hkb
        rw [← Nat.eq_of_beq_eq_true hka, ← Nat.eq_of_beq_eq_true hkb]
      · cases ha; exact (far rfl hb).elim
    · split at hb
      · cases hb; exact (far rfl ha).elim
      · exact olds_inj hr ha hb

theorem RepM.relabel (hM : RepM S F ρ M w) {L : List (Nat × Blk)} {n : Nat} (hm : memR lm n M L) (hk : keysB lm L = true) (ho : oldsB lm = true) : RepM S F (lmEnv lm ρ) (Mem.ofL L) w := by
  have live : ∀ ℓ' B', Mem.ofL L ℓ' = some B' → ∀ b, lmEnv lm ρ ℓ' = some b → B'.live b → ∃ ℓ B, lmFind lm ℓ' = some (.old ℓ) ∧ M ℓ = some B ∧ ρ ℓ = some b ∧ B.live b := by
    intro ℓ' B' hB' b hb hl
    have h := memR_mem hm ℓ' B' (ofL_mem hB')
    unfold lmEnv at hb
    split at h
    · rename_i ℓ hf
      rw [hf] at hb
      simp only at hb
      unfold blkR at h
      split at h
      · exact h.elim
      · rename_i t cs t' cs' hML
        exact ⟨ℓ, _, hf, hML, hb, trivial⟩
      · rename_i t α d enc l t' α' d' enc' l' hML
        refine ⟨ℓ, _, hf, hML, hb, ?_⟩
        rw [h]; exact hl
      · exact hl.elim
      · exact h.elim
    · rename_i sz hf
      rw [hf] at hb
      simp only [Option.some.injEq] at hb
      subst hb
      split at h
      · simp [Blk.live] at hl
      · exact h.elim
    · exact h.elim
  refine ⟨hM.sw, hM.fw, hM.sf, fun ℓ' b hb => ?_, fun ℓ' B' hB' => ?_, fun x y B C b c h1 h2 h3 h4 h5 h6 hne => ?_⟩
  · cases hf : lmFind lm ℓ' with
    | none => unfold lmEnv at hb; rw [hf] at hb; cases hb
    | some x =>
      have := List.all_eq_true.1 hk _ (lmFind_mem hf)
      intro h
      simp only at this
      rw [h] at this; cases this
  · have h := memR_mem hm ℓ' B' (ofL_mem hB')
    split at h
    · rename_i ℓ hf
      have he : lmEnv lm ρ ℓ' = ρ ℓ := by unfold lmEnv; rw [hf]
      unfold blkR at h
      split at h
      · exact h.elim
      · rename_i t cs t' cs' hML
        split at h
        · rename_i ht
          have := Nat.eq_of_beq_eq_true ht
          subst this
          obtain ⟨b, hb, vs, h1, h2, h3⟩ := hM.blk _ _ hML
          exact ⟨b, he.trans hb, vs, h1, (avR_ok n).2 cs cs' _ h h2, h3⟩
        · exact h.elim
      · rename_i t α d enc l t' α' d' enc' l' hML
        obtain ⟨b, hb, hr⟩ := hM.blk _ _ hML
        rw [h] at hr
        exact ⟨b, he.trans hb, hr⟩
      · rename_i α d enc l α' d' enc' l' hML
        obtain ⟨b, hb, hr⟩ := hM.blk _ _ hML
        rw [h] at hr
        exact ⟨b, he.trans hb, hr⟩
      · exact h.elim
    · rename_i sz hf
      split at h
      · subst h
        exact ⟨⟨0, 0, 0, sz, true⟩, by unfold lmEnv; rw [hf], rfl, by simp, .inl ⟨rfl, rfl, rfl⟩⟩
      · exact h.elim
    · exact h.elim
  · obtain ⟨ℓ, B0, f1, m1, r1, l1⟩ := live x B h1 b h3 h5
    obtain ⟨ℓ2, C0, f2, m2, r2, l2⟩ := live y C h2 c h4 h6
    refine hM.inj ℓ ℓ2 B0 C0 b c m1 m2 r1 r2 l1 l2 fun e => ?_
    subst e
    exact hne (olds_inj ho f1 f2)

theorem Sub.by_ {D : List Nat} {fr fr' : List AV} {M : Mem} (lm : LMap) (L : List (Nat × Blk)) (n : Nat) (hs : (keysB lm L && oldsB lm && keepB lm D) = true) (hm : memR lm n M L) (hf : avRs lm n fr fr') : Sub D fr M fr' (Mem.ofL L) := by
  rw [Sub_iff]
  intro S F ρ0 ρ a w h0 h1 hM hF
  rw [Bool.and_eq_true, Bool.and_eq_true] at hs
  refine ⟨S, lmEnv lm ρ, Store.le_refl _, fun ℓ b hb => ?_, hM.relabel hm hs.1.1 hs.1.2, (avR_ok n).2 fr fr' _ hf hF.1, hF.2⟩
  have := List.all_eq_true.1 hs.2 ℓ (h0 ℓ b hb)
  unfold lmEnv
  cases hf : lmFind lm ℓ with
  | none => rw [hf] at this; cases this
  | some x =>
    rw [hf] at this
    cases x with
    | old m =>
      simp only at this ⊢
      rw [Nat.eq_of_beq_eq_true this]
      exact h1 ℓ b hb
    | nil _ => cases this
end

end Go.Proofs.Ytihligeggkpolaa
