import Derived.Test.YtnjggjhkfncnlaaGreatDoorG2
set_option linter.unusedVariables false
set_option linter.unusedSimpArgs false
namespace Go.Proofs.YtnjggjhkfncnlaaGreatDoor
def CallPost (S F : Store) (ρ : Env) (w : World) (R : AV → Mem → Prop) (e : Ending) (w' : World) : Prop :=
 ∃ v u M' S' ρ', e = .returned v ∧ R u M' ∧ S.le S' ∧ Env.le ρ ρ' ∧ RepM S' F ρ' M' w' ∧ RV S' ρ' v u ∧ Wle w w'
def Plain (P : Program) (f : FuncId) : Prop := ∃ fn, P.funcs[f]? = some fn ∧ (fn.name == "runtime.NumGoroutine") = false ∧ fn.body.isNone = false
structure Spec (P : Program) (f : FuncId) (args : List AV) (M : Mem) (R : AV → Mem → Prop) : Prop where
 out : Plain P f ∧ ∀ S F ρ vs w, RepM S F ρ M w → RVs S ρ vs args → Calls P f vs.toArray w (CallPost S F ρ w R)
theorem Spec_iff {P : Program} {f : FuncId} {args : List AV} {M : Mem} {R : AV → Mem → Prop} : Spec P f args M R ↔ (Plain P f ∧ ∀ S F ρ vs w, RepM S F ρ M w → RVs S ρ vs args → Calls P f vs.toArray w (CallPost S F ρ w R)) := ⟨fun h => h.out, fun h => ⟨h⟩⟩
def PurePost (S F : Store) (w : World) (R : AV → Prop) (e : Ending) (w' : World) : Prop :=
 ∃ v u S', e = .returned v ∧ R u ∧ S.le S' ∧ S'.inW w' ∧ F.inW w' ∧ (∀ b, S' b = none ∨ F b = none) ∧ RP S' v u ∧ Wle w w'
structure PSpec (P : Program) (f : FuncId) (args : List AV) (R : AV → Prop) : Prop where
 out : Plain P f ∧ ∀ S F vs w, Gl S → S.inW w → F.inW w → (∀ b, S b = none ∨ F b = none) → RPs S vs args → Calls P f vs.toArray w (PurePost S F w R)
theorem PSpec_iff {P : Program} {f : FuncId} {args : List AV} {R : AV → Prop} : PSpec P f args R ↔ (Plain P f ∧ ∀ S F vs w, Gl S → S.inW w → F.inW w → (∀ b, S b = none ∨ F b = none) → RPs S vs args → Calls P f vs.toArray w (PurePost S F w R)) := ⟨fun h => h.out, fun h => ⟨h⟩⟩
def persN : Nat → AV → Bool
 | 0, _ => false
 | n + 1, .agg cs => cs.all (persN n)
 | n + 1, .tup cs => cs.all (persN n)
 | n + 1, .fn _ cs => cs.all (persN n)
 | _ + 1, .ptr _ _ => false
 | _ + 1, .row _ _ _ => false
 | _ + 1, .rel _ _ _ => false
 | _ + 1, .part _ _ _ _ => false
 | _ + 1, .mp _ => false
 | _ + 1, _ => true
section
variable {S F : Store} {ρ : Env} {M : Mem} {w : World} {P : Program}
theorem persN_ok : ∀ (n : Nat) {u : AV} {v : Value}, persN n u = true → RV S ρ v u → RP S v u := by
 intro n
 induction n with
 | zero => intro u v h; simp [persN] at h
 | succ n ih =>
  intro u v h hv
  have hl : ∀ {cs : List AV} {vs : Array Value}, cs.all (persN n) = true → RVs S ρ vs.toList cs → vs.size = cs.length ∧ ∃ vals : Nat → Value, (∀ i, i < vs.size → vs[i]? = some (vals i)) ∧ ∀ (j : Nat) u, cs[j]? = some u → RP S (vals j) u := by
   intro cs vs ha hr
   have hs := hr.1
   simp only [Array.length_toList] at hs
   refine ⟨hs, fun i => vs.getD i undef, fun i hi => by simp [hi], fun j x hx => ?_⟩
   obtain ⟨y, hy, hyr⟩ := hr.2 j x hx
   have : vs.getD j undef = y := by
    have hy' : vs[j]? = some y := by simpa using hy
    simp [hy']
   show RP S (vs.getD j undef) x
   rw [this]
   exact ih (List.all_eq_true.1 ha x (List.mem_of_getElem? hx)) hyr
  cases u with
  | agg cs =>
   obtain ⟨vs, rfl, hr⟩ := hv.agg_inv
   obtain ⟨hs, vals, he, hvv⟩ := hl h hr
   exact .agg cs vs hs vals he hvv
  | tup cs =>
   obtain ⟨vs, rfl, hr⟩ := hv.tup_inv
   obtain ⟨hs, vals, he, hvv⟩ := hl h hr
   exact .tup cs vs hs vals he hvv
  | fn f cs =>
   obtain ⟨vs, rfl, hr⟩ := hv.fn_inv
   obtain ⟨hs, vals, he, hvv⟩ := hl h hr
   exact .fn f cs vs hs vals he hvv
  | ptr _ _ => simp [persN] at h
  | row _ _ _ => simp [persN] at h
  | rel _ _ _ => simp [persN] at h
  | part _ _ _ _ => simp [persN] at h
  | mp _ => simp [persN] at h
  | top => exact .top _
  | int k n => rw [hv.int_inv]; exact .int _ _
  | bool b => rw [hv.bool_inv]; exact .bool _
  | str s => rw [hv.str_inv]; exact .str _
  | nilsl => rw [hv.nilsl_inv]; exact .nilsl
  | val x => rw [hv.val_inv]; exact .val _
  | sl d enc l => exact hv.sl_inv
  | slc d enc l => exact hv.slc_inv
  | pd c => exact hv.pd_inv
theorem persN_all {n : Nat} {us : List AV} {vs : List Value} (h : us.all (persN n) = true) (hv : RVs S ρ vs us) : RPs S vs us :=
 ⟨hv.1, fun i u hu => let ⟨v, e, hr⟩ := hv.2 i u hu; ⟨v, e, persN_ok n (List.all_eq_true.1 h u (List.mem_of_getElem? hu)) hr⟩⟩
noncomputable def keepF (F : Store) (ρ : Env) (M : Mem) (w : World) (own : Nat → Prop) : Store := fun k =>
 open Classical in if (∃ ℓ B b, M ℓ = some B ∧ ρ ℓ = some b ∧ B.live b ∧ b.blk = k ∧ ¬ own ℓ) then w.heap[k]? else F k
theorem keepF_live {own : Nat → Prop} {ℓ : Nat} {B : Blk} {b : Lab} (h1 : M ℓ = some B) (h2 : ρ ℓ = some b) (h3 : B.live b) (h4 : ¬ own ℓ) : keepF F ρ M w own b.blk = w.heap[b.blk]? := by
 unfold keepF; rw [if_pos ⟨ℓ, B, b, h1, h2, h3, rfl, h4⟩]
theorem keepF_le {own : Nat → Prop} (hM : RepM S F ρ M w) : Store.le F (keepF F ρ M w own) := by
 intro k o hk
 unfold keepF
 split
 ·exact hM.fw k o hk
 ·exact hk
theorem keepF_inW {own : Nat → Prop} (hM : RepM S F ρ M w) : (keepF F ρ M w own).inW w := by
 intro k o hk
 unfold keepF at hk
 split at hk
 ·exact hk
 ·exact hM.fw k o hk
theorem keepF_sf {own : Nat → Prop} (hM : RepM S F ρ M w) (k : Nat) : S k = none ∨ keepF F ρ M w own k = none := by
 unfold keepF
 split
 ·rename_i h
  obtain ⟨ℓ, B, b, h1, h2, h3, rfl, _⟩ := h
  obtain ⟨b', hb', hr⟩ := hM.blk _ _ h1
  rw [h2] at hb'; cases hb'
  exact .inl (hr.off h3).1
 ·exact hM.sf k
theorem RepM.behind {S' : Store} {w' : World} (hM : RepM S F ρ M w) (hle : S.le S') (hs : S'.inW w') (hf : (keepF F ρ M w (fun _ => False)).inW w') (hd : ∀ b, S' b = none ∨ keepF F ρ M w (fun _ => False) b = none) : RepM S' F ρ M w' := by
 refine ⟨hs, fun k o hk => hf k o (keepF_le hM k o hk), fun k => ?_, hM.dom, fun ℓ B hB => ?_, hM.inj, hM.gl.mono hle⟩
 ·rcases hd k with h | h
  ·exact .inl h
  ·right
   cases hk : F k with
   | none => rfl
   | some o => rw [keepF_le hM k o hk] at h; cases h
 ·obtain ⟨b, hb, hr⟩ := hM.blk _ _ hB
  refine ⟨b, hb, hr.keep hle (Env.le_refl _) fun hl => ?_⟩
  have hk := keepF_live (F := F) (w := w) (own := fun _ => False) hB hb hl (fun h => h)
  have hlt := hr.lt hl
  obtain ⟨o, ho⟩ : ∃ o, w.heap[b.blk]? = some o := ⟨_, Array.getElem?_eq_getElem hlt⟩
  refine ⟨by rw [hf b.blk o (hk.trans ho), ho], ?_⟩
  rw [(hr.off hl).1]
  rcases hd b.blk with h | h
  ·exact h
  ·rw [hk, ho] at h; cases h
theorem Spec.of_pure {f : FuncId} {args : List AV} {R : AV → Prop} {K : AV → Mem → Prop} {n : Nat} (h : PSpec P f args R) (hp : args.all (persN n) = true) (hk : ∀ u, R u → K u M) : Spec P f args M K := by
 rw [Spec_iff]
 rw [PSpec_iff] at h
 refine ⟨h.1, ?_⟩
 intro S F ρ vs w hM hv
 refine (h.2 S (keepF F ρ M w (fun _ => False)) vs w hM.gl hM.sw (keepF_inW hM) (keepF_sf hM) (persN_all hp hv)).mono ?_
 rintro e w' ⟨v, u, S', rfl, hR, hle, hs, hf, hd, hr, hw⟩
 exact ⟨v, u, M, S', ρ, rfl, hk u hR, hle, Env.le_refl _, hM.behind hle hs hf hd, .p hr, hw⟩
theorem PSpec.of_spec {f : FuncId} {args : List AV} {R : AV → Prop} (n : Nat) (h : Spec P f args Mem.none (fun u _ => R u ∧ persN n u = true)) : PSpec P f args R := by
 rw [PSpec_iff]
 rw [Spec_iff] at h
 refine ⟨h.1, ?_⟩
 intro S F vs w hg hs hf hd hv
 refine (h.2 S F (fun _ => none) vs w ⟨hs, hf, hd, by simp, by simp [Mem.none], by simp, hg⟩ (hv.rv _)).mono ?_
 rintro e w' ⟨v, u, M', S', ρ', rfl, ⟨hR, hp⟩, hle, _, hM', hr, hw⟩
 exact ⟨v, u, S', rfl, hR, hle, hM'.sw, hM'.fw, hM'.sf, persN_ok n hp hr, hw⟩
theorem Spec.mono {f : FuncId} {args : List AV} {R R' : AV → Mem → Prop} (h : Spec P f args M R) (hr : ∀ u M, R u M → R' u M) : Spec P f args M R' := by
 simp only [Spec_iff] at *
 refine ⟨h.1, ?_⟩
 intro S F ρ vs w hM hv
 exact (h.2 S F ρ vs w hM hv).mono fun e w' ⟨v, u, M', S', ρ', a, b, c⟩ => ⟨v, u, M', S', ρ', a, hr _ _ b, c⟩
theorem PSpec.mono {f : FuncId} {args : List AV} {R R' : AV → Prop} (h : PSpec P f args R) (hr : ∀ u, R u → R' u) : PSpec P f args R' := by
 simp only [PSpec_iff] at *
 refine ⟨h.1, ?_⟩
 intro S F vs w h0 h1 h2 h3 hv
 exact (h.2 S F vs w h0 h1 h2 h3 hv).mono fun e w' ⟨v, u, S', a, b, c⟩ => ⟨v, u, S', a, hr _ b, c⟩
theorem Spec.weaken {f : FuncId} {args args' : List AV} {R : AV → Mem → Prop} (h : Spec P f args' M R)
  (hw : ∀ S F ρ vs w, RepM S F ρ M w → RVs S ρ vs args → RVs S ρ vs args') : Spec P f args M R := by
 simp only [Spec_iff] at *
 refine ⟨h.1, ?_⟩
 intro S F ρ vs w hM hv
 exact h.2 S F ρ vs w hM (hw S F ρ vs w hM hv)
theorem Spec.leak {f : FuncId} {args : List AV} {R : AV → Mem → Prop} {ℓ : Nat} {t : TypeId} {α : Type} {d : α} {enc : α → List AV} {l : List α} (hl : M ℓ = some (.row t d enc l))
  (h : Spec P f args (M.set ℓ (.gone d enc l)) R) : Spec P f args M R := by
 simp only [Spec_iff] at *
 refine ⟨h.1, ?_⟩
 intro S F ρ vs w hM hv
 obtain ⟨S', b, hle, hb, hM', _⟩ := hM.leak hl
 refine (h.2 S' F ρ vs w hM' (hv.mono hle (Env.le_refl _))).mono ?_
 rintro e w' ⟨v, u, M', S'', ρ', a, b, c, r⟩
 exact ⟨v, u, M', S'', ρ', a, b, Store.le_trans hle c, r⟩
end
end Go.Proofs.YtnjggjhkfncnlaaGreatDoor
namespace Go.Proofs.YtnjggjhkfncnlaaGreatDoor
inductive LM
 | old (ℓ : Nat)
 | nil (sz : Nat)
abbrev LMap := List (Nat × LM)
def lmFind : LMap → Nat → Option LM
 | [], _ => none
 | (k, x) :: r, ℓ => match Nat.beq k ℓ with | true => some x | false => lmFind r ℓ
def Mem.ofL : List (Nat × Blk) → Mem
 | [], _ => Option.none
 | (k, B) :: r, ℓ => match Nat.beq k ℓ with | true => some B | false => Mem.ofL r ℓ
mutual
def avR (lm : LMap) : Nat → AV → AV → Prop
 | 0, _, _ => False
 | n + 1, u, v => match v with
  | .top => True
  | .ptr ℓ' o' => match u with
   | .ptr ℓ o => match lmFind lm ℓ' with
    | some (.old m) => match Nat.beq m ℓ with | true => o = o' | false => False
    | _ => False
   | _ => False
  | .row ℓ' n' sz' => match u with
   | .row ℓ n sz => match lmFind lm ℓ' with
    | some (.old m) => match Nat.beq m ℓ, Nat.beq sz sz' with
     | true, true => n = n'
     | _, _ => False
    | _ => False
   | .nilsl => match lmFind lm ℓ' with
    | some (.nil sz) => match Nat.beq sz sz' with
     | true => 0 = n'
     | false => False
    | _ => False
   | _ => False
  | .rel ℓ' i' o' => match u with
   | .rel ℓ i o => match lmFind lm ℓ' with
    | some (.old m) => match Nat.beq m ℓ with | true => i = i' ∧ o = o' | false => False
    | _ => False
   | _ => False
  | .part ℓ' lo' n' sz' => match u with
   | .part ℓ lo n sz => match lmFind lm ℓ' with
    | some (.old m) => match Nat.beq m ℓ with | true => lo = lo' ∧ n = n' ∧ sz = sz' | false => False
    | _ => False
   | _ => False
  | .mp ℓ' => match u with
   | .mp ℓ => match lmFind lm ℓ' with
    | some (.old m) => match Nat.beq m ℓ with | true => True | false => False
    | _ => False
   | _ => False
  | .fn f' cs' => match u with
   | .fn f cs => match Nat.beq f f' with | true => avRs lm n cs cs' | false => False
   | _ => False
  | .agg cs' => match u with
   | .agg cs => avRs lm n cs cs'
   | _ => False
  | .tup cs' => match u with
   | .tup cs => avRs lm n cs cs'
   | _ => False
  | .int k' m' => match u with
   | .int k m => match Nat.beq (kn k) (kn k') with | true => m = m' | false => False
   | _ => False
  | .bool b' => match u with
   | .bool b => b = b'
   | _ => False
  | .sl d enc l => match u with
   | .nilsl => l = []
   | u => u = .sl d enc l
  | v => u = v
def avRs (lm : LMap) : Nat → List AV → List AV → Prop
 | 0, _, _ => False
 | n + 1, us, vs => match us, vs with
  | [], [] => True
  | u :: us, v :: vs => match v with
   | .top => avRs lm n us vs
   | v => avR lm n u v ∧ avRs lm n us vs
  | _, _ => False
end
def blkR (lm : LMap) (n : Nat) : Option Blk → Blk → Prop
 | some _, .dead => True
 | none, .dead => False
 | some (.box t cs), .box t' cs' => match Nat.beq t t' with | true => avRs lm n cs cs' | false => False
 | some (.row t d enc l), .row t' d' enc' l' => Blk.row t d enc l = Blk.row t' d' enc' l'
 | some (.gone d enc l), .gone d' enc' l' => Blk.gone d enc l = Blk.gone d' enc' l'
 | some (.iter s p), .iter s' p' => s = s' ∧ p = p'
 | some (.map ek ev l), .map ek' ev' l' => Blk.map ek ev l = Blk.map ek' ev' l'
 | some (.obj o), .obj o' => o = o'
 | _, _ => False
def memR (lm : LMap) (n : Nat) (M : Mem) : List (Nat × Blk) → Prop
 | [] => True
 | (ℓ', B') :: r => (match lmFind lm ℓ' with
  | some (.old ℓ) => blkR lm n (M ℓ) B'
  | some (.nil _) => match B' with
   | .row _ _ _ l => l = []
   | _ => False
  | none => False) ∧ memR lm n M r
def keysB (lm : LMap) (L : List (Nat × Blk)) : Bool := lm.all fun p => (Mem.ofL L p.1).isSome
def oldsB : LMap → Bool
 | [] => true
 | (_, .old ℓ) :: r => r.all (fun p => match p.2 with | .old m => !(Nat.beq m ℓ) | .nil _ => true) && oldsB r
 | (_, .nil _) :: r => oldsB r
def notDead (L : List (Nat × Blk)) (k : Nat) : Bool := match Mem.ofL L k with
 | some .dead => false
 | _ => true
def oldsL (L : List (Nat × Blk)) (lm : LMap) : Bool := oldsB (lm.filter fun p => notDead L p.1)
def keepB (lm : LMap) (D : List Nat) : Bool := D.all fun d => match lmFind lm d with | some (.old m) => Nat.beq m d | _ => false
def distB : LMap → Bool
 | [] => true
 | (k, _) :: r => r.all (fun p => !(Nat.beq p.1 k)) && distB r
def lmEnv (lm : LMap) (ρ : Env) : Env := fun ℓ' => match lmFind lm ℓ' with
 | some (.old ℓ) => ρ ℓ
 | some (.nil sz) => some ⟨0, 0, 0, sz, true⟩
 | none => none
section
variable {S F : Store} {ρ : Env} {M : Mem} {w : World} {lm : LMap}
theorem avR_ok : ∀ (n : Nat), (∀ (u v : AV) (x : Value), avR lm n u v → RV S ρ x u → RV S (lmEnv lm ρ) x v) ∧ (∀ (us vs : List AV) (xs : List Value), avRs lm n us vs → RVs S ρ xs us → RVs S (lmEnv lm ρ) xs vs) := by
 intro n
 induction n with
 | zero => exact ⟨fun u v x h => by simp [avR] at h, fun us vs xs h => by simp [avRs] at h⟩
 | succ n ih =>
  refine ⟨fun u v x h hx => ?_, fun us vs xs h hx => ?_⟩
  ·have pers : ∀ {v : AV}, u = v → (∀ {y}, RV S ρ y v → RP S y v) → RV S (lmEnv lm ρ) x v := fun e hp => by subst e; exact .p (hp hx)
   cases v with
   | top => exact .p (.top _)
   | ptr ℓ' o' =>
    simp only [avR] at h
    split at h
    ·split at h
     ·rename_i ℓ o m hm
      split at h
      ·rename_i hb
       have := Nat.eq_of_beq_eq_true hb
       subst this; subst h
       obtain ⟨b, hb, rfl⟩ := hx.ptr_inv
       exact .ptr _ _ b (by unfold lmEnv; rw [hm]; exact hb)
      ·exact h.elim
     ·exact h.elim
    ·exact h.elim
   | row ℓ' n' sz' =>
    simp only [avR] at h
    split at h
    ·split at h
     ·rename_i ℓ k sz m hm
      split at h
      ·rename_i hb hs
       have := Nat.eq_of_beq_eq_true hb
       subst this
       have := Nat.eq_of_beq_eq_true hs
       subst this; subst h
       obtain ⟨b, hb, h1, h2, h3, rfl⟩ := hx.row_inv
       exact .row _ _ _ b (by unfold lmEnv; rw [hm]; exact hb) h1 h2 h3
      ·exact h.elim
     ·exact h.elim
    ·split at h
     ·rename_i sz hm
      split at h
      ·rename_i hs
       have := Nat.eq_of_beq_eq_true hs
       subst this; subst h
       rw [hx.nilsl_inv]
       have := RV.row (S := S) (ρ := lmEnv lm ρ) ℓ' 0 sz ⟨0, 0, 0, sz, true⟩ (by unfold lmEnv; rw [hm]) rfl rfl (fun _ => rfl)
       exact this
      ·exact h.elim
     ·exact h.elim
    ·exact h.elim
   | rel ℓ' i' o' =>
    simp only [avR] at h
    split at h
    ·split at h
     ·rename_i ℓ i o m hm
      split at h
      ·rename_i hb
       have := Nat.eq_of_beq_eq_true hb
       subst this
       obtain ⟨rfl, rfl⟩ := h
       obtain ⟨b, hb, h1, rfl⟩ := hx.rel_inv
       exact .rel _ _ _ b (by unfold lmEnv; rw [hm]; exact hb) h1
      ·exact h.elim
     ·exact h.elim
    ·exact h.elim
   | part ℓ' lo' n' sz' =>
    simp only [avR] at h
    split at h
    ·split at h
     ·rename_i ℓ lo n sz m hm
      split at h
      ·rename_i hb
       have := Nat.eq_of_beq_eq_true hb
       subst this
       obtain ⟨rfl, rfl, rfl⟩ := h
       obtain ⟨b, a, c, hb, h1, h2, h3, rfl⟩ := hx.part_inv
       exact .part _ _ _ _ b a c (by unfold lmEnv; rw [hm]; exact hb) h1 h2 h3
      ·exact h.elim
     ·exact h.elim
    ·exact h.elim
   | mp ℓ' =>
    simp only [avR] at h
    split at h
    ·split at h
     ·rename_i ℓ m hm
      split at h
      ·rename_i hb
       have := Nat.eq_of_beq_eq_true hb
       subst this
       obtain ⟨b, hb, rfl⟩ := hx.mp_inv
       exact .mp _ b (by unfold lmEnv; rw [hm]; exact hb)
      ·exact h.elim
     ·exact h.elim
    ·exact h.elim
   | fn f' cs' =>
    simp only [avR] at h
    split at h
    ·rename_i f cs
     split at h
     ·rename_i hf
      have := Nat.eq_of_beq_eq_true hf
      subst this
      obtain ⟨vs, rfl, hv⟩ := hx.fn_inv
      have := RV.fn_mk f (ih.2 cs cs' vs.toList h hv)
      simpa using this
     ·exact h.elim
    ·exact h.elim
   | agg cs' =>
    simp only [avR] at h
    split at h
    ·rename_i cs
     obtain ⟨vs, rfl, hv⟩ := hx.agg_inv
     have := RV.agg_mk (ih.2 cs cs' vs.toList h hv)
     simpa using this
    ·exact h.elim
   | tup cs' =>
    simp only [avR] at h
    split at h
    ·rename_i cs
     obtain ⟨vs, rfl, hv⟩ := hx.tup_inv
     have := RV.tup_mk (ih.2 cs cs' vs.toList h hv)
     simpa using this
    ·exact h.elim
   | int k' m' =>
    simp only [avR] at h
    split at h
    ·split at h
     ·rename_i hk
      have := kn_inj hk
      subst this; subst h
      rw [hx.int_inv]
      exact .p (.int _ _)
     ·exact h.elim
    ·exact h.elim
   | bool b' =>
    simp only [avR] at h
    split at h
    ·subst h
     rw [hx.bool_inv]
     exact .p (.bool _)
    ·exact h.elim
   | sl d enc l =>
    simp only [avR] at h
    split at h
    ·subst h
     rw [hx.nilsl_inv]
     exact .p (.sl d enc [] none 0 0 (fun _ _ => undef) (by simp) (by simp) (by simp) (by simp) (by simp) (by simp))
    ·exact pers h fun hy => hy.sl_inv
   | str s => simp only [avR] at h; exact pers h fun hy => by rw [hy.str_inv]; exact .str _
   | nilsl => simp only [avR] at h; exact pers h fun hy => by rw [hy.nilsl_inv]; exact .nilsl
   | val y => simp only [avR] at h; exact pers h fun hy => by rw [hy.val_inv]; exact .val _
   | slc d enc l => simp only [avR] at h; exact pers h fun hy => hy.slc_inv
   | pd c => simp only [avR] at h; exact pers h fun hy => hy.pd_inv
  ·simp only [avRs] at h
   split at h
   ·rw [hx.nil_inv]; exact RVs.nil _ _
   ·rename_i u us v vs
    obtain ⟨y, ys, rfl, hy, hys⟩ := hx.cons_inv
    split at h
    ·exact RVs.cons (.p (.top _)) (ih.2 us vs ys h hys)
    ·exact RVs.cons (ih.1 u v y h.1 hy) (ih.2 us vs ys h.2 hys)
   ·exact h.elim
theorem ofL_mem : ∀ {L : List (Nat × Blk)} {ℓ : Nat} {B : Blk}, Mem.ofL L ℓ = some B → (ℓ, B) ∈ L
 | [], _, _, h => by simp [Mem.ofL] at h
 | (k, C) :: r, ℓ, B, h => by
  simp only [Mem.ofL] at h
  split at h
  ·rename_i hk
   have := Nat.eq_of_beq_eq_true hk
   subst this
   cases h; exact List.mem_cons_self
  ·exact List.mem_cons_of_mem _ (ofL_mem h)
theorem memR_mem {n : Nat} : ∀ {L : List (Nat × Blk)}, memR lm n M L → ∀ ℓ' B', (ℓ', B') ∈ L → (match lmFind lm ℓ' with
  | some (.old ℓ) => blkR lm n (M ℓ) B'
  | some (.nil _) => match B' with
   | .row _ _ _ l => l = []
   | _ => False
  | none => False)
 | [], _, _, _, h => by cases h
 | (k, C) :: r, h, ℓ', B', hm => by
  rcases List.mem_cons.1 hm with e | hm
  ·injection e with e1 e2; subst e1; subst e2; exact h.1
  ·exact memR_mem h.2 ℓ' B' hm
theorem lmFind_mem : ∀ {lm : LMap} {ℓ : Nat} {x : LM}, lmFind lm ℓ = some x → (ℓ, x) ∈ lm
 | [], _, _, h => by simp [lmFind] at h
 | (k, y) :: r, ℓ, x, h => by
  simp only [lmFind] at h
  split at h
  ·rename_i hk
   have := Nat.eq_of_beq_eq_true hk
   subst this
   cases h; exact List.mem_cons_self
  ·exact List.mem_cons_of_mem _ (lmFind_mem h)
theorem olds_inj : ∀ {lm : LMap}, oldsB lm = true → ∀ {a b ℓ : Nat}, lmFind lm a = some (.old ℓ) → lmFind lm b = some (.old ℓ) → a = b
 | [], _, _, _, _, h, _ => by simp [lmFind] at h
 | (k, x) :: r, ho, a, b, ℓ, ha, hb => by
  have hr : oldsB r = true := by
   cases x with
   | old m => simp only [oldsB, Bool.and_eq_true] at ho; exact ho.2
   | nil _ => simpa only [oldsB] using ho
  have far : ∀ {c : Nat}, x = .old ℓ → lmFind r c = some (.old ℓ) → False := by
   intro c hx hc
   subst hx
   simp only [oldsB, Bool.and_eq_true] at ho
   have := List.all_eq_true.1 ho.1 _ (lmFind_mem hc)
   simp at this
  simp only [lmFind] at ha hb
  split at ha
  ·rename_i hka
   split at hb
   ·rename_i hkb
    rw [← Nat.eq_of_beq_eq_true hka, ← Nat.eq_of_beq_eq_true hkb]
   ·cases ha; exact (far rfl hb).elim
  ·split at hb
   ·cases hb; exact (far rfl ha).elim
   ·exact olds_inj hr ha hb
theorem lmFind_filter {L : List (Nat × Blk)} {a : Nat} (ha : notDead L a = true) : ∀ {lm : LMap} {x : LM}, lmFind lm a = some x → lmFind (lm.filter fun p => notDead L p.1) a = some x
 | [], _, h => by simp [lmFind] at h
 | (k, y) :: r, x, h => by
  simp only [lmFind] at h
  split at h
  ·rename_i hk
   have := Nat.eq_of_beq_eq_true hk
   subst this
   cases h
   rw [List.filter_cons_of_pos (by exact ha)]
   simp [lmFind]
  ·rename_i hk
   have ih := lmFind_filter ha h
   by_cases hp : notDead L k = true
   ·rw [List.filter_cons_of_pos (by exact hp)]
    simp only [lmFind, hk]
    exact ih
   ·rw [List.filter_cons_of_neg (by exact hp)]
    exact ih
theorem notDead_live {L : List (Nat × Blk)} {k : Nat} {B : Blk} {b : Lab} (h : Mem.ofL L k = some B) (hl : B.live b) : notDead L k = true := by
 unfold notDead
 rw [h]
 cases B <;> first | rfl | exact hl.elim
theorem RepM.relabel (hM : RepM S F ρ M w) {L : List (Nat × Blk)} {n : Nat} (hm : memR lm n M L) (hk : keysB lm L = true) (ho : oldsL L lm = true) : RepM S F (lmEnv lm ρ) (Mem.ofL L) w := by
 have live : ∀ ℓ' B', Mem.ofL L ℓ' = some B' → ∀ b, lmEnv lm ρ ℓ' = some b → B'.live b → ∃ ℓ B, lmFind lm ℓ' = some (.old ℓ) ∧ M ℓ = some B ∧ ρ ℓ = some b ∧ B.live b := by
  intro ℓ' B' hB' b hb hl
  have h := memR_mem hm ℓ' B' (ofL_mem hB')
  unfold lmEnv at hb
  split at h
  ·rename_i ℓ hf
   rw [hf] at hb
   simp only at hb
   unfold blkR at h
   split at h
   ·exact hl.elim
   ·exact h.elim
   ·rename_i t cs t' cs' hML
    exact ⟨ℓ, _, hf, hML, hb, trivial⟩
   ·rename_i t α d enc l t' α' d' enc' l' hML
    refine ⟨ℓ, _, hf, hML, hb, ?_⟩
    rw [h]; exact hl
   ·exact hl.elim
   ·rename_i s p s' p' hML
    exact ⟨ℓ, _, hf, hML, hb, trivial⟩
   ·rename_i hML
    exact ⟨ℓ, _, hf, hML, hb, trivial⟩
   ·rename_i hML
    exact ⟨ℓ, _, hf, hML, hb, trivial⟩
   ·exact h.elim
  ·rename_i sz hf
   rw [hf] at hb
   simp only [Option.some.injEq] at hb
   subst hb
   split at h
   ·simp [Blk.live] at hl
   ·exact h.elim
  ·exact h.elim
 refine ⟨hM.sw, hM.fw, hM.sf, fun ℓ' b hb => ?_, fun ℓ' B' hB' => ?_, fun x y B C b c h1 h2 h3 h4 h5 h6 hne => ?_, hM.gl⟩
 ·cases hf : lmFind lm ℓ' with
  | none => unfold lmEnv at hb; rw [hf] at hb; cases hb
  | some x =>
   have := List.all_eq_true.1 hk _ (lmFind_mem hf)
   intro h
   simp only at this
   rw [h] at this; cases this
 ·have h := memR_mem hm ℓ' B' (ofL_mem hB')
  split at h
  ·rename_i ℓ hf
   have he : lmEnv lm ρ ℓ' = ρ ℓ := by unfold lmEnv; rw [hf]
   unfold blkR at h
   split at h
   ·rename_i hML
    obtain ⟨b, hb, hr⟩ := hM.blk _ _ hML
    exact ⟨b, he.trans hb, trivial⟩
   ·exact h.elim
   ·rename_i t cs t' cs' hML
    split at h
    ·rename_i ht
     have := Nat.eq_of_beq_eq_true ht
     subst this
     obtain ⟨b, hb, vs, h1, h2, h3⟩ := hM.blk _ _ hML
     exact ⟨b, he.trans hb, vs, h1, (avR_ok n).2 cs cs' _ h h2, h3⟩
    ·exact h.elim
   ·rename_i t α d enc l t' α' d' enc' l' hML
    obtain ⟨b, hb, hr⟩ := hM.blk _ _ hML
    rw [h] at hr
    exact ⟨b, he.trans hb, hr⟩
   ·rename_i α d enc l α' d' enc' l' hML
    obtain ⟨b, hb, hr⟩ := hM.blk _ _ hML
    rw [h] at hr
    exact ⟨b, he.trans hb, hr⟩
   ·rename_i s p s' p' hML
    obtain ⟨rfl, rfl⟩ := h
    obtain ⟨b, hb, hr⟩ := hM.blk _ _ hML
    exact ⟨b, he.trans hb, hr⟩
   ·rename_i hML
    obtain ⟨b, hb, hr⟩ := hM.blk _ _ hML
    rw [h] at hr
    exact ⟨b, he.trans hb, hr⟩
   ·rename_i hML
    obtain ⟨b, hb, hr⟩ := hM.blk _ _ hML
    rw [h] at hr
    exact ⟨b, he.trans hb, hr⟩
   ·exact h.elim
  ·rename_i sz hf
   split at h
   ·subst h
    exact ⟨⟨0, 0, 0, sz, true⟩, by unfold lmEnv; rw [hf], rfl, by simp, .inl ⟨rfl, rfl, rfl⟩⟩
   ·exact h.elim
  ·exact h.elim
 ·obtain ⟨ℓ, B0, f1, m1, r1, l1⟩ := live x B h1 b h3 h5
  obtain ⟨ℓ2, C0, f2, m2, r2, l2⟩ := live y C h2 c h4 h6
  refine hM.inj ℓ ℓ2 B0 C0 b c m1 m2 r1 r2 l1 l2 fun e => ?_
  subst e
  exact hne (olds_inj ho (lmFind_filter (notDead_live h1 h5) f1) (lmFind_filter (notDead_live h2 h6) f2))
end
def overM (L : List (Nat × Blk)) (M : Mem) : Mem := fun ℓ => match Mem.ofL L ℓ with
 | some B => some B
 | none => M ℓ
def backB (lm lb : LMap) : Bool := lm.all fun p => match p.2 with
 | .old ℓ => (match lmFind lb ℓ with | some (.old m) => Nat.beq m p.1 | _ => false)
 | .nil _ => true
def freshB (lm lb : LMap) (M : Mem) : Bool := lb.all fun p => (lm.any fun q => match q.2 with | .old ℓ => Nat.beq ℓ p.1 | .nil _ => false) || (M p.1).isNone
section
variable {S F F2 : Store} {ρ : Env} {M : Mem} {w : World} {P : Program}
theorem BlkRep.reF {b : Lab} {B : Blk} (h : BlkRep S F ρ w b B) (hf : B.live b → F2 b.blk = none) : BlkRep S F2 ρ w b B := by
 cases B with
 | box t cells => obtain ⟨vs, h1, h2, h3, h4⟩ := h; exact ⟨vs, h1, h2, h3, hf trivial⟩
 | row t d enc l =>
  obtain ⟨h1, h2, h3⟩ := h
  exact ⟨h1, h2, h3.imp id fun ⟨hn, hc, vs, h4, h5, h6, h7, h8⟩ => ⟨hn, hc, vs, h4, h5, h6, h7, hf hn⟩⟩
 | gone d enc l => exact h
 | iter s pos => exact ⟨h.1, h.2.1, hf trivial⟩
 | map ek ev l => obtain ⟨es, ck, h1, h2, h3, h4⟩ := h; exact ⟨es, ck, h1, h2, h3, hf trivial⟩
 | obj o => exact ⟨h.1, h.2.1, hf trivial⟩
 | hdr t g m =>
  obtain ⟨l, hlm, hg, h1, h2, h3⟩ := h
  exact ⟨l, hlm, hg, h1, h2, h3.imp id fun ⟨hn, hc, vs, h4, h5, h6, h7, h8⟩ => ⟨hn, hc, vs, h4, h5, h6, h7, hf hn⟩⟩
 | dead => trivial
theorem RepM.reF (hM : RepM S F ρ M w) (h1 : F2.inW w) (h2 : ∀ k, S k = none ∨ F2 k = none) (h3 : ∀ ℓ B b, M ℓ = some B → ρ ℓ = some b → B.live b → F2 b.blk = none) : RepM S F2 ρ M w :=
 ⟨hM.sw, h1, h2, hM.dom, fun ℓ B hB => let ⟨b, hb, hr⟩ := hM.blk ℓ B hB; ⟨b, hb, hr.reF (h3 ℓ B b hB hb)⟩, hM.inj, hM.gl⟩
theorem lmFind_of_mem : ∀ {lm : LMap}, distB lm = true → ∀ {ℓ : Nat} {x : LM}, (ℓ, x) ∈ lm → lmFind lm ℓ = some x
 | [], _, _, _, h => by cases h
 | (k, y) :: r, hd, ℓ, x, h => by
  simp only [distB, Bool.and_eq_true] at hd
  simp only [lmFind]
  rcases List.mem_cons.1 h with e | h
  ·injection e with e1 e2; subst e1; subst e2; simp
  ·have := List.all_eq_true.1 hd.1 _ h
   simp only [Bool.not_eq_true'] at this
   have hne : Nat.beq k ℓ = false := by
    cases hb : Nat.beq k ℓ
    ·rfl
    ·have := Nat.eq_of_beq_eq_true hb; subst this; simp at *
   rw [hne]
   exact lmFind_of_mem hd.2 h
theorem Spec.call {f : FuncId} {args args' : List AV} {K R : AV → Mem → Prop} (lm : LMap) (L : List (Nat × Blk)) (n : Nat) (hs : (keysB lm L && oldsL L lm && distB lm) = true) (hm : memR lm n M L) (ha : avRs lm n args args')
  (h : Spec P f args' (Mem.ofL L) R)
  (hk : ∀ u M', R u M' → ∃ (lb : LMap) (L2 : List (Nat × Blk)) (u' : AV), (keysB lb L2 && oldsL L2 lb && backB lm lb && freshB lm lb M) = true ∧ memR lb n M' L2 ∧ avR lb n u u' ∧ K u' (overM L2 M)) : Spec P f args M K := by
 rw [Spec_iff] at h ⊢
 refine ⟨h.1, fun S F ρ vs w hM hv => ?_⟩
 simp only [Bool.and_eq_true] at hs
 obtain ⟨⟨hs1, hs2⟩, hs3⟩ := hs
 let own : Nat → Prop := fun ℓ => ∃ ℓ', lmFind lm ℓ' = some (.old ℓ)
 have hMr := hM.relabel hm hs1 hs2
 have hlive : ∀ ℓ' B' b, Mem.ofL L ℓ' = some B' → lmEnv lm ρ ℓ' = some b → B'.live b → keepF F ρ M w own b.blk = none := by
  intro ℓ' B' b hB' hb hl
  obtain ⟨b', hb', hr'⟩ := hMr.blk _ _ hB'
  rw [hb] at hb'; cases hb'
  have hFb := (hr'.off hl).2
  have hh := memR_mem hm ℓ' B' (ofL_mem hB')
  unfold lmEnv at hb
  cases hf : lmFind lm ℓ' with
  | none => rw [hf] at hb; cases hb
  | some x =>
   rw [hf] at hb hh
   cases x with
   | nil sz =>
    simp only [Option.some.injEq] at hb
    subst hb
    simp only at hh
    split at hh
    ·simp [Blk.live] at hl
    ·exact hh.elim
   | old ℓ =>
    simp only at hb hh
    have hB : ∃ B, M ℓ = some B ∧ B.live b := by
     unfold blkR at hh
     split at hh
     ·exact hl.elim
     ·exact hh.elim
     ·rename_i hML; exact ⟨_, hML, trivial⟩
     ·rename_i hML; exact ⟨_, hML, by rw [hh]; exact hl⟩
     ·exact hl.elim
     ·rename_i hML; exact ⟨_, hML, trivial⟩
     ·rename_i hML; exact ⟨_, hML, trivial⟩
     ·rename_i hML; exact ⟨_, hML, trivial⟩
     ·exact hh.elim
    obtain ⟨B, hML, hBl⟩ := hB
    unfold keepF
    rw [if_neg]
    ·exact hFb
    ·rintro ⟨y, C, c, h1, h2, h3, h4, h5⟩
     refine hM.inj y ℓ C B c b h1 hML h2 hb h3 hBl (fun e => ?_) h4
     subst e
     exact h5 ⟨ℓ', hf⟩
 have hMc := hMr.reF (keepF_inW (own := own) hM) (keepF_sf hM) hlive
 refine (h.2 S (keepF F ρ M w own) (lmEnv lm ρ) vs w hMc ((avR_ok n).2 args args' vs ha hv)).mono ?_
 rintro e w' ⟨v, u, M', S', ρ', rfl, hR, hle, hρ, hM', hr, hw⟩
 obtain ⟨lb, L2, u', hb, hm2, hau, hK⟩ := hk u M' hR
 simp only [Bool.and_eq_true] at hb
 obtain ⟨⟨⟨hb1, hb2⟩, hb3⟩, hb4⟩ := hb
 have hM2 := hM'.relabel hm2 hb1 hb2
 let ρ2 : Env := fun ℓ => match lmEnv lb ρ' ℓ with
  | some b => some b
  | none => ρ ℓ
 have hle1 : Env.le (lmEnv lb ρ') ρ2 := fun ℓ b hb => by show (match lmEnv lb ρ' ℓ with | some b => some b | none => ρ ℓ) = _; rw [hb]
 have hback : ∀ ℓ ℓ', lmFind lm ℓ' = some (.old ℓ) → lmFind lb ℓ = some (.old ℓ') := by
  intro ℓ ℓ' hf
  have := List.all_eq_true.1 hb3 _ (lmFind_mem hf)
  simp only at this
  split at this
  ·rename_i m hm'
   rw [hm', Nat.eq_of_beq_eq_true this]
  ·cases this
 have hle2 : Env.le ρ ρ2 := by
  intro ℓ b hb
  show (match lmEnv lb ρ' ℓ with | some b => some b | none => ρ ℓ) = _
  cases hf : lmFind lb ℓ with
  | none =>
   have : lmEnv lb ρ' ℓ = none := by unfold lmEnv; rw [hf]
   rw [this]; exact hb
  | some x =>
   have := List.all_eq_true.1 hb4 _ (lmFind_mem hf)
   simp only [Bool.or_eq_true] at this
   rcases this with h1 | h1
   ·obtain ⟨q, hq, hq2⟩ := List.any_eq_true.1 h1
    obtain ⟨k, y⟩ := q
    cases y with
    | nil _ => cases hq2
    | old m =>
     simp only at hq2
     have := Nat.eq_of_beq_eq_true hq2
     subst this
     have hfl := lmFind_of_mem hs3 hq
     have hbk := hback _ _ hfl
     have he : lmEnv lm ρ k = some b := by unfold lmEnv; rw [hfl]; exact hb
     have h2 : lmEnv lb ρ' m = some b := by unfold lmEnv; rw [hbk]; exact hρ _ _ he
     rw [h2]
   ·exfalso
    have hn : M ℓ = none := by cases hh : M ℓ with
     | none => rfl
     | some B => simp [hh] at h1
    exact hM.dom ℓ b hb hn
 have hF : ∀ k o, F k = some o → keepF F ρ M w own k = some o := keepF_le hM
 have framed : ∀ ℓ B b, Mem.ofL L2 ℓ = none → M ℓ = some B → ρ ℓ = some b → B.live b → keepF F ρ M w own b.blk = w.heap[b.blk]? := by
  intro ℓ B b h0 h1 h2 h3
  refine keepF_live h1 h2 h3 fun ⟨ℓ', hf⟩ => ?_
  have := List.all_eq_true.1 hb1 _ (lmFind_mem (hback _ _ hf))
  simp only at this
  rw [h0] at this; cases this
 refine ⟨v, u', overM L2 M, S', ρ2, rfl, hK, hle, hle2, ⟨hM'.sw, fun k o hk => hM'.fw k o (hF k o hk), fun k => ?_, fun ℓ b hb => ?_, fun ℓ B hB => ?_, fun x y B C b c h1 h2 h3 h4 h5 h6 hne => ?_, hM'.gl⟩, ((avR_ok n).1 u u' v hau hr).mono (Store.le_refl _) hle1, hw⟩
 ·rcases hM'.sf k with h1 | h1
  ·exact .inl h1
  ·right
   cases hk : F k with
   | none => rfl
   | some o => rw [hF k o hk] at h1; cases h1
 ·unfold overM
  cases h2 : Mem.ofL L2 ℓ with
  | some B => simp
  | none =>
   have hb : (match lmEnv lb ρ' ℓ with | some b => some b | none => ρ ℓ) = some b := hb
   cases h3 : lmEnv lb ρ' ℓ with
   | some b' => exact absurd h2 (hM2.dom _ _ h3)
   | none => rw [h3] at hb; exact hM.dom _ _ hb
 ·unfold overM at hB
  cases h2 : Mem.ofL L2 ℓ with
  | some B' =>
   rw [h2] at hB
   cases hB
   obtain ⟨b, hb, hr2⟩ := hM2.blk _ _ h2
   refine ⟨b, hle1 _ _ hb, (hr2.keep (Store.le_refl _) hle1 fun _ => ⟨rfl, rfl⟩).reF fun hl => ?_⟩
   have := (hr2.off hl).2
   cases hk : F b.blk with
   | none => rfl
   | some o => rw [hF _ o hk] at this; cases this
  | none =>
   rw [h2] at hB
   obtain ⟨b, hb, hr2⟩ := hM.blk _ _ hB
   refine ⟨b, hle2 _ _ hb, hr2.keep hle hle2 fun hl => ?_⟩
   have hk := framed ℓ B b h2 hB hb hl
   obtain ⟨o, ho⟩ : ∃ o, w.heap[b.blk]? = some o := ⟨_, Array.getElem?_eq_getElem (hr2.lt hl)⟩
   refine ⟨by rw [hM'.fw _ o (hk.trans ho), ho], ?_⟩
   rw [(hr2.off hl).1]
   rcases hM'.sf b.blk with h1 | h1
   ·exact h1
   ·rw [hk, ho] at h1; cases h1
 ·have back : ∀ z D d, overM L2 M z = some D → ρ2 z = some d → D.live d → (Mem.ofL L2 z = some D ∧ lmEnv lb ρ' z = some d) ∨ (Mem.ofL L2 z = none ∧ M z = some D ∧ ρ z = some d) := by
   intro z D d hD hd hl
   unfold overM at hD
   cases hz : Mem.ofL L2 z with
   | some D' =>
    rw [hz] at hD; cases hD
    obtain ⟨b', hb', _⟩ := hM2.blk _ _ hz
    have := hle1 _ _ hb'
    rw [hd] at this; cases this
    exact .inl ⟨rfl, hb'⟩
   | none =>
    rw [hz] at hD
    obtain ⟨b', hb', _⟩ := hM.blk _ _ hD
    have := hle2 _ _ hb'
    rw [hd] at this; cases this
    exact .inr ⟨rfl, hD, hb'⟩
  have mixed : ∀ z D d z' D' d', Mem.ofL L2 z = some D → lmEnv lb ρ' z = some d → D.live d → Mem.ofL L2 z' = none → M z' = some D' → ρ z' = some d' → D'.live d' → d.blk ≠ d'.blk := by
   intro z D d z' D' d' a1 a2 a3 a4 a5 a6 a7 e
   obtain ⟨b', hb', hr2⟩ := hM2.blk _ _ a1
   rw [a2] at hb'; cases hb'
   have h1 := (hr2.off a3).2
   have h2 := framed z' D' d' a4 a5 a6 a7
   obtain ⟨c', hc', hr3⟩ := hM.blk _ _ a5
   rw [a6] at hc'; cases hc'
   rw [e, h2, Array.getElem?_eq_getElem (hr3.lt a7)] at h1
   cases h1
  rcases back x B b h1 h3 h5 with ⟨p1, p2⟩ | ⟨p0, p1, p2⟩ <;> rcases back y C c h2 h4 h6 with ⟨q1, q2⟩ | ⟨q0, q1, q2⟩
  ·exact hM2.inj x y B C b c p1 q1 p2 q2 h5 h6 hne
  ·exact mixed x B b y C c p1 p2 h5 q0 q1 q2 h6
  ·exact fun e => mixed y C c x B b q1 q2 h6 p0 p1 p2 h5 e.symm
  ·exact hM.inj x y B C b c p1 q1 p2 q2 h5 h6 hne
def swapRow (ℓ : Nat) (u : AV) : AV → AV
 | .row ℓ' n sz => match Nat.beq ℓ' ℓ with | true => u | false => .row ℓ' n sz
 | v => v
theorem swapRow_ok {ℓ : Nat} {α : Type} {d : α} {enc : α → List AV} {l : List α} (hM : RepM S F ρ M w) (hl : M ℓ = some (.gone d enc l)) {v : Value} {u : AV} (h : RV S ρ v u) : RV S ρ v (swapRow ℓ (.sl d enc l) u) := by
 unfold swapRow
 split
 ·rename_i ℓ' n sz
  split
  ·rename_i hb
   have := Nat.eq_of_beq_eq_true hb
   subst this
   obtain ⟨b, hb, _, _, _, rfl⟩ := h.row_inv
   obtain ⟨b', hb', _, hr⟩ := hM.blk _ _ hl
   rw [hb] at hb'; cases hb'
   exact .p hr
  ·exact h
 ·exact h
def swapB (ℓ : Nat) (u : AV) : AV → AV
 | .agg cs => .agg (cs.map (swapRow ℓ u))
 | v => swapRow ℓ u v
theorem swapB_ok {ℓ : Nat} {α : Type} {d : α} {enc : α → List AV} {l : List α} (hM : RepM S F ρ M w) (hl : M ℓ = some (.gone d enc l)) {v : Value} {u : AV} (h : RV S ρ v u) : RV S ρ v (swapB ℓ (.sl d enc l) u) := by
 unfold swapB
 split
 ·rename_i cs
  obtain ⟨vs, rfl, hr⟩ := h.agg_inv
  have : RVs S ρ vs.toList (cs.map (swapRow ℓ (.sl d enc l))) := ⟨by simpa using hr.1, fun i u hu => by
   rw [List.getElem?_map] at hu
   obtain ⟨u0, h0, rfl⟩ := Option.map_eq_some_iff.1 hu
   obtain ⟨v, hv, hvr⟩ := hr.2 i u0 h0
   exact ⟨v, hv, swapRow_ok hM hl hvr⟩⟩
  have := RV.agg_mk this
  simpa using this
 ·exact swapRow_ok hM hl h
theorem Spec.handB {f : FuncId} {args : List AV} {R : AV → Mem → Prop} (ℓ : Nat) {t : TypeId} {α : Type} {d : α} {enc : α → List AV} {l : List α} (hl : M ℓ = some (.row t d enc l))
  (h : Spec P f (args.map (swapB ℓ (.sl d enc l))) (M.set ℓ (.gone d enc l)) R) : Spec P f args M R := by
 refine Spec.leak hl (Spec.weaken h fun S F ρ vs w hM hv => ⟨by simpa using hv.1, fun i u hu => ?_⟩)
 rw [List.getElem?_map] at hu
 obtain ⟨u0, h0, rfl⟩ := Option.map_eq_some_iff.1 hu
 obtain ⟨v, e, hr⟩ := hv.2 i u0 h0
 exact ⟨v, e, swapB_ok hM (Mem.set_eq _ _ _) hr⟩
theorem Spec.hand {f : FuncId} {args : List AV} {R : AV → Mem → Prop} (ℓ : Nat) {t : TypeId} {α : Type} {d : α} {enc : α → List AV} {l : List α} (hl : M ℓ = some (.row t d enc l))
  (h : Spec P f (args.map (swapRow ℓ (.sl d enc l))) (M.set ℓ (.gone d enc l)) R) : Spec P f args M R := by
 refine Spec.leak hl (Spec.weaken h fun S F ρ vs w hM hv => ⟨by simpa using hv.1, fun i u hu => ?_⟩)
 rw [List.getElem?_map] at hu
 obtain ⟨u0, h0, rfl⟩ := Option.map_eq_some_iff.1 hu
 obtain ⟨v, e, hr⟩ := hv.2 i u0 h0
 exact ⟨v, e, swapRow_ok hM (Mem.set_eq _ _ _) hr⟩
end
end Go.Proofs.YtnjggjhkfncnlaaGreatDoor
namespace Go.Proofs.YtnjggjhkfncnlaaGreatDoor
def getK : List AV → Nat → (AV → Prop) → Prop
 | [], _, k => k .top
 | v :: _, 0, k => k v
 | _ :: l, n + 1, k => getK l n k
theorem getK_eq : ∀ (l : List AV) (n : Nat) (k : AV → Prop), getK l n k = k (l.getD n .top)
 | [], _, _ => by simp [getK]
 | _ :: _, 0, _ => by simp [getK]
 | _ :: l, n + 1, k => by rw [getK, getK_eq l n k]; simp
def putK : List AV → Nat → AV → (List AV → Prop) → Prop
 | [], _, _, k => k []
 | _ :: l, 0, v, k => k (v :: l)
 | x :: l, n + 1, v, k => putK l n v fun l' => k (x :: l')
theorem putK_eq : ∀ (l : List AV) (n : Nat) (v : AV) (k : List AV → Prop), putK l n v k = k (l.set n v)
 | [], _, _, _ => by simp [putK]
 | _ :: _, 0, _, _ => by simp [putK]
 | _ :: l, n + 1, v, k => by rw [putK, putK_eq l n v]; simp
def putD (fr : List AV) (d : Option Tmp) (u : AV) (k : List AV → Prop) : Prop :=
 match d with
 | some d => putK fr d u k
 | none => k fr
def setD (fr : List AV) (d : Option Tmp) (u : AV) : List AV :=
 match d with
 | some d => fr.set d u
 | none => fr
theorem putD_eq (fr : List AV) (d : Option Tmp) (u : AV) (k : List AV → Prop) : putD fr d u k = k (setD fr d u) := by
 cases d <;> simp [putD, setD, putK_eq]
def constK (v : Value) (k : AV → Prop) : Prop :=
 match v with
 | .int i n => k (.int i n)
 | .bool b => k (.bool b)
 | .string s => k (.str s)
 | .slice none 0 0 => k .nilsl
 | v => k (.val v)
theorem constK_eq (v : Value) (k : AV → Prop) : constK v k = k (constA v) := by
 unfold constK constA
 split <;> simp
def avK (fr : List AV) (x : Operand) (k : AV → Prop) : Prop :=
 match x with
 | .tmp t => getK fr t k
 | .const v => constK v k
 | .func f => k (.fn f [])
 | .global g => k (.val (.pointer (some ⟨g, 0, none⟩)))
def avOf (fr : List AV) : Operand → AV
 | .tmp t => fr.getD t .top
 | .const v => constA v
 | .func f => .fn f []
 | .global g => .val (.pointer (some ⟨g, 0, none⟩))
theorem avK_eq (fr : List AV) (x : Operand) (k : AV → Prop) : avK fr x k = k (avOf fr x) := by
 cases x <;> simp [avK, avOf, getK_eq, constK_eq]
def avsK (fr : List AV) : List Operand → (List AV → Prop) → Prop
 | [], k => k []
 | x :: xs, k => avK fr x fun u => avsK fr xs fun us => k (u :: us)
theorem avsK_eq (fr : List AV) : ∀ (xs : List Operand) (k : List AV → Prop), avsK fr xs k = k (xs.map (avOf fr))
 | [], _ => rfl
 | x :: xs, k => by rw [avsK, avK_eq, avsK_eq fr xs]; rfl
def catK : List AV → List AV → (List AV → Prop) → Prop
 | [], r, k => k r
 | x :: l, r, k => catK l r fun l' => k (x :: l')
theorem catK_eq : ∀ (l r : List AV) (k : List AV → Prop), catK l r k = k (l ++ r)
 | [], _, _ => rfl
 | x :: l, r, k => by rw [catK, catK_eq l r]; rfl
structure callP (P : Program) (f : FuncId) (args : List AV) (K : AV → Prop) : Prop where
 out : ∃ R n, PSpec P f args R ∧ args.all (persN n) = true ∧ (∃ u, R u) ∧ ∀ u, R u → K u
theorem callP_iff {P : Program} {f : FuncId} {args : List AV} {K : AV → Prop} : callP P f args K ↔ (∃ R n, PSpec P f args R ∧ args.all (persN n) = true ∧ (∃ u, R u) ∧ ∀ u, R u → K u) := ⟨fun h => h.out, fun h => ⟨h⟩⟩
theorem callPI {P : Program} {f : FuncId} {args : List AV} {K : AV → Prop} {R : AV → Prop} (n : Nat) (h : PSpec P f args R) (hp : args.all (persN n) = true) (he : ∃ u, R u) (hk : ∀ u, R u → K u) : callP P f args K := by
 rw [callP_iff]; exact ⟨R, n, h, hp, he, hk⟩
inductive DMode
 | any
 | rows
 | pers
 | fresh
 | flat
 | own
 | boxes (as : List (Nat × Nat))
structure callL (P : Program) (f : FuncId) (args : List AV) (M : Mem) (K : AV → Mem → Prop) : Prop where
 out : ∃ (R : AV → Mem → Prop) (n : Nat) (lb : LMap) (L2 : List (Nat × Blk)) (u' : AV), Spec P f args (Mem.ofL []) R ∧ avRs [] n args args ∧ (keysB lb L2 && oldsL L2 lb && backB [] lb && freshB [] lb M) = true ∧ L2.all (fun p => (M p.1).isNone) = true ∧
  (∀ u M', R u M' → memR lb n M' L2 ∧ avR lb n u u') ∧ K u' (overM L2 M)
theorem callL.spec {P : Program} {f : FuncId} {args : List AV} {M : Mem} {K : AV → Mem → Prop} (h : callL P f args M K) : Spec P f args M K := by
 obtain ⟨R, n, lb, L2, u', hs, ha, hb, hf, hr, hk⟩ := h.out
 exact Spec.call [] [] n rfl trivial ha hs fun u M' hR => ⟨lb, L2, u', hb, (hr u M' hR).1, (hr u M' hR).2, hk⟩
theorem callL.mono {P : Program} {f : FuncId} {args : List AV} {M : Mem} {K K' : AV → Mem → Prop} (h : callL P f args M K) (hk : ∀ u M', K u M' → K' u M') : callL P f args M K' := by
 obtain ⟨R, n, lb, L2, u', hs, ha, hb, hf, hr, hK⟩ := h.out
 exact ⟨R, n, lb, L2, u', hs, ha, hb, hf, hr, hk _ _ hK⟩
theorem ofL_some : ∀ {L : List (Nat × Blk)} {p : Nat × Blk}, p ∈ L → Mem.ofL L p.1 ≠ none
 | [], _, h => by cases h
 | (k, B) :: r, p, h => by
  simp only [Mem.ofL]
  split
  ·simp
  ·rename_i hk
   rcases List.mem_cons.1 h with e | h
   ·have e1 : p.1 = k := by rw [e]
    rw [e1, Nat.beq_refl] at hk
    cases hk
   ·exact ofL_some h
theorem overM_set {L : List (Nat × Blk)} {M : Mem} {d : Nat} (B : Blk) (h : Mem.ofL L d = none) : overM L (M.set d B) = (overM L M).set d B := by
 funext x
 by_cases e : x = d
 ·subst e; rw [Mem.set_eq]; unfold overM; rw [h, Mem.set_eq]
 ·rw [Mem.set_ne _ _ e]; unfold overM; rw [Mem.set_ne _ _ e]
theorem callL.beside {P : Program} {f : FuncId} {args : List AV} {M : Mem} {K : AV → Mem → Prop} {d : Nat} {B : Blk} (h : callL P f args M fun u M1 => M1 d = none ∧ K u (M1.set d B)) : M d = none ∧ callL P f args (M.set d B) K := by
 obtain ⟨R, n, lb, L2, u', hs, ha, hb, hf, hr, hd, hk⟩ := h.out
 have hL : Mem.ofL L2 d = none := by
  cases hh : Mem.ofL L2 d with
  | none => rfl
  | some B' => unfold overM at hd; rw [hh] at hd; cases hd
 have hMd : M d = none := by unfold overM at hd; rw [hL] at hd; exact hd
 simp only [Bool.and_eq_true] at hb
 obtain ⟨⟨⟨hb1, hb2⟩, hb3⟩, hb4⟩ := hb
 have far : ∀ k, Mem.ofL L2 k ≠ none → (M k).isNone = true → ((M.set d B) k).isNone = true := by
  intro k h1 h2
  rw [Mem.set_ne _ _ (fun e => h1 (by rw [e]; exact hL))]
  exact h2
 refine ⟨hMd, ⟨R, n, lb, L2, u', hs, ha, ?_, ?_, hr, ?_⟩⟩
 ·simp only [Bool.and_eq_true]
  refine ⟨⟨⟨hb1, hb2⟩, hb3⟩, ?_⟩
  unfold freshB at hb4 ⊢
  rw [List.all_eq_true] at hb4 ⊢
  intro p hp
  have := hb4 p hp
  simp only [List.any_nil, Bool.false_or] at this ⊢
  have hkey := List.all_eq_true.1 hb1 p hp
  exact far _ (fun e => by rw [e] at hkey; cases hkey) this
 ·rw [List.all_eq_true] at hf ⊢
  intro p hp
  exact far _ (ofL_some hp) (hf p hp)
 ·rw [overM_set B hL]; exact hk
def asL : List (Nat × Nat) → Nat → Option Nat
 | [], _ => none
 | (t, ℓ) :: r, n => match Nat.beq n t with
  | true => some ℓ
  | false => asL r n
def slotL (as : List (Nat × Nat)) : Operand → Option Nat
 | .tmp t => asL as t
 | _ => none
def atBox (as : List (Nat × Nat)) (x : Operand) : AV → Bool
 | .ptr ℓ _ => match slotL as x with
  | some ℓ' => Nat.beq ℓ ℓ'
  | none => false
 | _ => false
def callQ (r : DMode) (P : Program) (f : FuncId) (args : List AV) (M : Mem) (K : AV → Mem → Prop) : Prop :=
 match r with
 | .fresh => callL P f args M K
 | .own => Spec P f args M K
 | _ => callP P f args fun u => K u M
def isFlat : DMode → Bool
 | .flat => true
 | _ => false
def isOwn : DMode → Bool
 | .own => true
 | _ => false
def isFresh : DMode → Bool
 | .fresh => true
 | _ => false
theorem callQ_f {r : DMode} (h : isFresh r = true) (P : Program) (f : FuncId) (args : List AV) (M : Mem) (K : AV → Mem → Prop) : callQ r P f args M K = callL P f args M K := by
 cases r <;> first | rfl | cases h
theorem callQ_o {r : DMode} (h : isOwn r = true) (P : Program) (f : FuncId) (args : List AV) (M : Mem) (K : AV → Mem → Prop) : callQ r P f args M K = Spec P f args M K := by
 cases r <;> first | rfl | cases h
theorem callQ_p {r : DMode} (h : isFresh r = false) (ho : isOwn r = false) (P : Program) (f : FuncId) (args : List AV) (M : Mem) (K : AV → Mem → Prop) : callQ r P f args M K = callP P f args fun u => K u M := by
 cases r <;> first | rfl | exact absurd h (by decide) | exact absurd ho (by decide)
def evM (draw : Option DMode) (tt : TT) (op : Op) (us : List AV) (M : Mem) : Rs :=
 match draw with
 | some .rows => match op with
  | .load t _ => match us with
   | [.rel _ _ _] => .no
   | [x] => evLoad tt t M x
   | _ => .no
  | op => evN tt op us
 | some .pers => match op with
  | .load t _ => match us with
   | [.pd cells] => evPart tt t cells
   | _ => .no
  | op => evN tt op us
 | some .fresh => match op with
  | .load t _ => match us with
   | [.pd cells] => evPart tt t cells
   | _ => .no
  | op => evN tt op us
 | some (.boxes as) => match op with
  | .load t x => match slotL as x with
   | none => match us with
    | [.pd cells] => evPart tt t cells
    | _ => .no
   | some _ => match us with
    | [a] => match atBox as x a with
     | true => evR tt (.load t x) [a] M
     | false => .no
    | _ => .no
  | op => evN tt op us
 | _ => evR tt op us M
def storeM (draw : Option DMode) (tt : TT) (t : TypeId) (p : Operand) (us : List AV) (M : Mem) (K : Mem → Prop) : Prop :=
 match draw with
 | some .rows => match us with
  | [.rel ℓ j o, x] => match cellsA x with
   | some cs => match allPers cs with
    | true => storeK tt t [.rel ℓ j o, x] M K
    | false => False
   | none => False
  | _ => False
 | some (.boxes as) => match us with
  | [a, x] => match atBox as p a with
   | true => storeK tt t [a, x] M K
   | false => False
  | _ => False
 | _ => storeK tt t us M K
theorem storeM_le {draw : Option DMode} {tt : TT} {t : TypeId} {p : Operand} {us : List AV} {M : Mem} {K : Mem → Prop} (h : storeM draw tt t p us M K) : storeK tt t us M K := by
 unfold storeM at h
 split at h
 ·split at h
  ·split at h
   ·split at h
    ·exact h
    ·exact h.elim
   ·exact h.elim
  ·exact h.elim
 ·split at h
  ·split at h
   ·exact h
   ·exact h.elim
  ·exact h.elim
 ·exact h
theorem evM_le (draw : Option DMode) (tt : TT) (op : Op) (us : List AV) (M : Mem) : evM draw tt op us M = .no ∨ evM draw tt op us M = evR tt op us M := by
 have other : ∀ (op : Op), (∀ t x, op = .load t x → False) → evN tt op us = evR tt op us M := by
  intro op h
  unfold evR
  split
  ·rename_i t x; exact absurd rfl (h t x)
  ·rfl
 unfold evM
 split
 ·split
  ·split
   ·exact .inl rfl
   ·exact .inr rfl
   ·exact .inl rfl
  ·rename_i h
   exact .inr (other _ h)
 ·split
  ·split
   ·exact .inr rfl
   ·exact .inl rfl
  ·rename_i h
   exact .inr (other _ h)
 ·split
  ·split
   ·exact .inr rfl
   ·exact .inl rfl
  ·rename_i h
   exact .inr (other _ h)
 ·split
  ·split
   ·split
    ·exact .inr rfl
    ·exact .inl rfl
   ·split
    ·split
     ·exact .inr rfl
     ·exact .inl rfl
    ·exact .inl rfl
  ·rename_i h
   exact .inr (other _ h)
 ·exact .inr rfl
structure leakS (u : AV) (M : Mem) (K : AV → Mem → Prop) : Prop where
 out : K u M ∨ leakK [u] M fun us M' => match us with | [x] => K x M' | _ => False
theorem leakN {u : AV} {M : Mem} {K : AV → Mem → Prop} (h : K u M) : leakS u M K := ⟨.inl h⟩
theorem leakY {u : AV} {M : Mem} {K : AV → Mem → Prop} (h : leakK [u] M fun us M' => match us with | [x] => K x M' | _ => False) : leakS u M K := ⟨.inr h⟩
theorem leakS_iff {u : AV} {M : Mem} {K : AV → Mem → Prop} : leakS u M K ↔ (K u M ∨ leakK [u] M fun us M' => match us with | [x] => K x M' | _ => False) := ⟨fun h => h.out, fun h => ⟨h⟩⟩
def leakM (draw : Option DMode) (K : AV → Mem → Prop) : AV → Mem → Prop :=
 match draw with
 | none => K
 | some _ => fun u M => leakS u M K
def scalarT (tt : TT) (t : TypeId) : Bool :=
 match tt.find t with
 | some ⟨_, _, .slice e, _⟩ => match tt.find e with
  | some ⟨_, _, .int _, _⟩ => true
  | some ⟨_, _, .bool, _⟩ => true
  | some ⟨_, _, .string, _⟩ => true
  | _ => false
 | _ => false
def rowF : AV → Bool
 | .row _ _ _ => false
 | _ => true
def rowFs : List AV → Bool
 | [] => true
 | u :: us => match rowF u with | true => rowFs us | false => false
def flat1 : AV → Bool
 | .row _ _ _ => false
 | .agg cs => rowFs cs
 | _ => true
def flatAll : List AV → Bool
 | [] => true
 | u :: us => match flat1 u with | true => flatAll us | false => false
def nilFirst : List Operand → Bool
 | .const (.slice none 0 0) :: _ => true
 | _ => false
def buildM (draw : Option DMode) (tt : TT) (t : TypeId) (len : Nat) (is : List Nat) (us : List AV) (dst : Option Tmp) (M : Mem) (K : AV → Mem → Prop) : Prop :=
 match draw with
 | none => buildK tt t len is us dst M K
 | some r => match (match isFlat r with | true => true | false => scalarT tt t) with
  | true => match flatAll us with
   | true => buildK tt t len is us dst M (leakM (some r) K)
   | false => False
  | false => buildK tt t len is us dst M (leakM (some r) K)
theorem buildM_le {draw : Option DMode} {tt : TT} {t : TypeId} {len : Nat} {is : List Nat} {us : List AV} {dst : Option Tmp} {M : Mem} {K : AV → Mem → Prop} (h : buildM draw tt t len is us dst M K) : buildK tt t len is us dst M (leakM draw K) := by
 unfold buildM at h
 cases draw with
 | none => exact h
 | some r =>
  simp only at h
  split at h
  ·split at h
   ·exact h
   ·exact h.elim
  ·exact h
def appM (draw : Option DMode) (tt : TT) (args : List Operand) (ts : List TypeId) (us : List AV) (dst : Option Tmp) (M : Mem) (K : AV → Mem → Prop) : Prop :=
 match draw with
 | some .fresh => match nilFirst args with
  | true => match us with
   | [.nilsl, .sl d enc l] => appK2 tt ts [.nilsl, .sl d enc l] dst M K
   | _ => False
  | false => appK2 tt ts us dst M K
 | _ => appK2 tt ts us dst M K
theorem appM_le {draw : Option DMode} {tt : TT} {args : List Operand} {ts : List TypeId} {us : List AV} {dst : Option Tmp} {M : Mem} {K : AV → Mem → Prop} (h : appM draw tt args ts us dst M K) : appK2 tt ts us dst M K := by
 unfold appM at h
 split at h
 ·split at h
  ·split at h
   ·exact h
   ·exact h.elim
  ·exact h
 ·exact h
def semK (P : Program) (tt : TT) (draw : Option DMode) (o : Oper) (us : List AV) (M : Mem) (K : AV → Mem → Prop) : Prop :=
 match o.op with
 | .store t p _ => match draw with
  | none => storeH tt t us M fun M' => K (.tup []) M'
  | some _ => storeM draw tt t p us M fun M' => K (.tup []) M'
 | .alloc t => allocK tt t o.dst M K
 | .box t _ => boxK t us o.dst M K
 | .makeSlice t _ _ => match draw with
  | none => mkN (makeK tt t us o.dst M K) tt t us M K
  | some _ => makeK tt t us o.dst M K
 | .range t _ => rangeK tt t us o.dst M K
 | .next _ str => nextK str us M K
 | .slice t _ lo hi mx => match draw with
  | none => match lo, hi, mx, us with
   | none, some _, none, [.row ℓ n sz, .int _ b] => sliceS (cutRowK tt t ℓ n sz b o.dst M K) (partK tt t ℓ n sz 0 b M K)
   | some _, none, none, [.row ℓ n sz, .int _ a] => partK tt t ℓ n sz a n M K
   | _, _, _, _ => rsK (evR tt o.op us M) fun u => K u M
  | some _ => rsK (evM draw tt o.op us M) fun u => K u M
 | .convert s d _ => match draw with
  | none => match us with
   | [.row ℓ _ _] => strK tt s d ℓ M K
   | _ => rsK (evR tt o.op us M) fun u => K u M
  | some _ => rsK (evM draw tt o.op us M) fun u => K u M
 | .makeMap _ r => match draw, r with
  | none, none => mapK o.dst M K
  | _, _ => rsK (evM draw tt o.op us M) fun u => K u M
 | .lookup t _ _ ok => match draw with
  | none => lookK P tt t ok us M K
  | some _ => rsK (evM draw tt o.op us M) fun u => K u M
 | .mapUpdate t _ _ _ => match draw with
  | none => updK P tt t us M fun M' => K (.tup []) M'
  | some _ => rsK (evM draw tt o.op us M) fun u => K u M
 | .buildSlice t len ps => match draw with
  | none => bldN (buildM none tt t len (ps.toList.map (·.1)) us o.dst M K) tt t len (ps.toList.map (·.1)) us o.dst M K
  | some _ => buildM draw tt t len (ps.toList.map (·.1)) us o.dst M K
 | .call c => match c.callee with
  | .value _ => match us with
   | .fn f caps :: args => match draw with
    | none => catK args caps fun l => Spec P f l M K
    | some r => catK args caps fun l => callQ r P f l M K
   | _ => False
  | .builtin .append => match draw with
   | none => appN (appM none tt c.args.toList c.argTypes.toList us o.dst M K) tt c.argTypes.toList us o.dst M K
   | some _ => appM draw tt c.args.toList c.argTypes.toList us o.dst M K
  | .builtin .copy => match draw with
   | none => copyK tt c.argTypes.toList us M K
   | some _ => rsK (evM draw tt o.op us M) fun u => K u M
  | _ => rsK (evM draw tt o.op us M) fun u => K u M
 | _ => rsK (evM draw tt o.op us M) fun u => K u M
section
variable {S F : Store} {ρ : Env} {M : Mem} {w : World} {P : Program} {tt : TT}
theorem RepF.eval {a : Act} {fr : List AV} (h : RepF S ρ a fr) (x : Operand) : RV S ρ (a.eval x) (avOf fr x) := by
 cases x with
 | tmp t =>
  simp only [Act.eval, avOf]
  by_cases ht : t < fr.length
  ·have hg : fr[t]? = some (fr.getD t .top) := by simp [List.getD, ht]
   obtain ⟨v, hv, hr⟩ := h.1.2 t _ hg
   have : a.tmps.getD t undef = v := by
    have hv' : a.tmps[t]? = some v := by simpa using hv
    simp [hv']
   rw [this]; exact hr
  ·have : fr.getD t .top = .top := by simp [List.getD, ht]
   rw [this]; exact .p (.top _)
 | const v => exact .p (constA_ok v)
 | func f => exact RV.fn_mk f (RVs.nil _ _)
 | global g => exact .p (.val _)
theorem RepF.evals {a : Act} {fr : List AV} (h : RepF S ρ a fr) : ∀ xs : List Operand, RVs S ρ (xs.map a.eval) (xs.map (avOf fr))
 | [] => RVs.nil _ _
 | x :: xs => RVs.cons (h.eval x) (RepF.evals h xs)
theorem RVs.set_ {vs : List Value} {us : List AV} (h : RVs S ρ vs us) (d : Nat) {v : Value} {u : AV} (hv : RV S ρ v u) : RVs S ρ (vs.set d v) (us.set d u) := by
 refine ⟨by simp [h.1], fun i x hx => ?_⟩
 rw [List.getElem?_set] at hx ⊢
 split at hx
 ·split at hx
  ·rename_i e hl
   subst e
   cases hx
   exact ⟨v, by rw [if_pos rfl, if_pos (by rw [h.1]; exact hl)], hv⟩
  ·simp at hx
 ·rename_i e
  obtain ⟨y, hy, hr⟩ := h.2 i x hx
  exact ⟨y, by rw [if_neg e]; exact hy, hr⟩
theorem RepF.put {a : Act} {fr : List AV} (h : RepF S ρ a fr) (d : Option Tmp) {v : Value} {u : AV} (hv : RV S ρ v u) : RepF S ρ (a.put d v) (setD fr d u) := by
 cases d with
 | none => exact h
 | some d => exact ⟨by simpa [Act.put, setD] using h.1.set_ d hv, h.2⟩
theorem RepF.mono {S' : Store} {ρ' : Env} {a : Act} {fr : List AV} (h : RepF S ρ a fr) (hS : S.le S') (hρ : Env.le ρ ρ') : RepF S' ρ' a fr := ⟨h.1.mono hS hρ, h.2⟩
def After (S F : Store) (ρ : Env) (w : World) (K : List AV → Mem → Prop) (a : Act) (w' : World) : Prop :=
 ∃ fr M' S' ρ', K fr M' ∧ S.le S' ∧ Env.le ρ ρ' ∧ RepM S' F ρ' M' w' ∧ RepF S' ρ' a fr ∧ Wle w w'
theorem After.trans {S' : Store} {ρ' : Env} {w' w'' : World} {K : List AV → Mem → Prop} {a : Act} (h : After S' F ρ' w' K a w'') (hS : S.le S') (hρ : Env.le ρ ρ') (hw : Wle w w') : After S F ρ w K a w'' := by
 obtain ⟨fr, M', S2, ρ2, hk, h1, h2, h3, h4, h5⟩ := h
 exact ⟨fr, M', S2, ρ2, hk, Store.le_trans hS h1, Env.le_trans hρ h2, h3, h4, hw.trans h5⟩
theorem After.mono {K K' : List AV → Mem → Prop} {a : Act} {w' : World} (h : After S F ρ w K a w') (hk : ∀ fr M, K fr M → K' fr M) : After S F ρ w K' a w' := by
 obtain ⟨fr, M', S2, ρ2, h0, h⟩ := h
 exact ⟨fr, M', S2, ρ2, hk _ _ h0, h⟩
theorem wp_value {o : Oper} {a : Act} {next : Act → World → Prop} {Q : Exit → Act → World → Prop} {m : Sem Value} {v : Value} {w' : World} (he : execOp a.eval o = (do pure (.value (← m)))) (h : m.run P w = .ok v w') (hn : next (a.put o.dst v) w') :
  o.wp P a w next Q := by
 unfold Oper.wp; rw [he]; simp only [Sem.run_bind, h, Result.andThen_ok, Sem.run_pure, Oper.upon]; exact hn
theorem semK_ok (hT : TOkB P tt = true) {draw : Option DMode} {o : Oper} {us : List AV} {a : Act} {K : AV → Mem → Prop} {Q : Exit → Act → World → Prop} {fr : List AV} (h : semK P tt draw o us M K) (hM : RepM S F ρ M w) (hF : RepF S ρ a fr)
  (hu : RVs S ρ ((opnds o.op).map a.eval) us) : o.wp P a w (After S F ρ w (fun fr' M' => ∃ u, K u M' ∧ fr' = setD fr o.dst u)) Q := by
 have fin : ∀ {m : Sem Value}, execOp a.eval o = (do pure (.value (← m))) → Leaves P S F ρ w m K → o.wp P a w (After S F ρ w (fun fr' M' => ∃ u, K u M' ∧ fr' = setD fr o.dst u)) Q := by
  intro m he ⟨v, u, M', S', ρ', w', hr, hK, h1, h2, h3, h4, h5⟩
  exact wp_value he hr ⟨_, M', S', ρ', ⟨u, hK, rfl⟩, h1, h2, h3, (hF.mono h1 h2).put _ h4, h5⟩
 have rs : ∀ {r : Rs}, RsOk S ρ P w (execOp a.eval o) r → ∀ {r' : Rs}, (r' = .no ∨ r' = r) → rsK r' (fun u => K u M) → o.wp P a w (After S F ρ w (fun fr' M' => ∃ u, K u M' ∧ fr' = setD fr o.dst u)) Q := by
  intro r hr r' hr' hk
  rcases hr' with rfl | rfl
  ·exact hk.elim
  obtain ⟨v, u, he, hv, hK⟩ := rsK_ok hk hr
  unfold Oper.wp
  rw [he]
  exact ⟨_, M, S, ρ, ⟨u, hK, rfl⟩, Store.le_refl _, Env.le_refl _, hM, hF.put _ hv, Wle.refl _⟩
 obtain ⟨dst, op, ty, ps, af, gd⟩ := o
 unfold semK at h
 cases op with
 | store t x y =>
  have hL : LeavesU P S F ρ w (Instr.storeAt t (a.eval x) (a.eval y)) (fun M' => K (.tup []) M') := by
   cases draw with
   | none => exact storeH_ok hT h hM hu
   | some r => exact storeK_ok hT (va := a.eval x) (vx := a.eval y) (storeM_le h) hM hu
  obtain ⟨M', S', ρ', w', hr, hK, h1, h2, h3, h5⟩ := hL
  unfold Oper.wp
  have he : (execOp a.eval ⟨dst, .store t x y, ty, ps, af, gd⟩).run P w = .ok .skip w' := by
   simp only [execOp, Sem.run_bind, hr, Result.andThen_ok, Sem.run_pure]
  rw [he]
  refine ⟨_, M', S', ρ', ⟨_, hK, rfl⟩, h1, h2, h3, (hF.mono h1 h2).put _ ?_, h5⟩
  exact RV.tup_mk (RVs.nil _ _)
 | alloc t => exact fin rfl (allocK_ok hT h hM)
 | range t x => exact fin rfl (rangeK_ok (v := a.eval x) hT h hM hu)
 | next x str => exact fin rfl (nextK_ok (v := a.eval x) h hM hu)
 | slice t x lo hi mx =>
  simp only at h
  split at h
  ·split at h
   ·rename_i y ℓ n sz k b
    obtain ⟨v0, vs1, e, h0, hv1⟩ := hu.cons_inv
    obtain ⟨v1, vs2, e', h1, hv2⟩ := hv1.cons_inv
    have hv2' := hv2.nil_inv
    subst hv2'
    subst e'
    simp only [opnds, Option.toList, List.nil_append, List.append_nil, List.map_cons, List.map_nil, List.cons.injEq, and_true] at e
    obtain ⟨e1, e2⟩ := e
    have hi := h1.int_inv
    rw [← e2] at hi
    rw [← e1] at h0
    rcases h.out with h | h
    ·have := cutRowK_ok (P := P) (k := k) hT h hM h0
     rw [← hi] at this
     exact fin rfl this
    ·exact fin rfl (partK_ok (P := P) (kl := k) (kh := k) hT h hM h0 (.inr ⟨rfl, rfl⟩) (.inl (by rw [← hi]; rfl)))
   ·rename_i y ℓ n sz k b
    obtain ⟨v0, vs1, e, h0, hv1⟩ := hu.cons_inv
    obtain ⟨v1, vs2, e', h1, hv2⟩ := hv1.cons_inv
    have hv2' := hv2.nil_inv
    subst hv2'
    subst e'
    simp only [opnds, Option.toList, List.nil_append, List.append_nil, List.map_cons, List.map_nil, List.cons.injEq, and_true] at e
    obtain ⟨e1, e2⟩ := e
    have hi := h1.int_inv
    rw [← e2] at hi
    rw [← e1] at h0
    exact fin rfl (partK_ok (P := P) (kl := k) (kh := k) hT h hM h0 (.inl (by rw [← hi]; rfl)) (.inr ⟨rfl, rfl⟩))
   ·exact rs (evR_ok hT hM a.eval _ hu) (.inr rfl) h
  ·exact rs (evR_ok hT hM a.eval _ hu) (evM_le _ tt _ _ _) h
 | box t x => exact fin rfl (boxK_ok (v := a.eval x) h hM hu)
 | convert t d x =>
  simp only at h
  split at h
  ·split at h
   ·rename_i ℓ n sz
    obtain ⟨v0, vs1, e, h0, hv1⟩ := hu.cons_inv
    have hv1' := hv1.nil_inv
    subst hv1'
    simp only [opnds, List.map_cons, List.map_nil, List.cons.injEq, and_true] at e
    rw [← e] at h0
    exact fin rfl (strK_ok (P := P) hT h hM h0)
   ·exact rs (evR_ok hT hM a.eval _ hu) (.inr rfl) h
  ·exact rs (evR_ok hT hM a.eval _ hu) (evM_le _ tt _ _ _) h
 | makeMap t r =>
  simp only at h
  split at h
  ·exact fin rfl (mapK_ok (t := t) h hM)
  ·exact rs (evR_ok hT hM a.eval _ hu) (evM_le _ tt _ _ _) h
 | lookup t x y ok =>
  simp only at h
  split at h
  ·exact fin rfl (lookK_ok (P := P) (vm := a.eval x) (vk := a.eval y) hT h hM hu)
  ·exact rs (evR_ok hT hM a.eval _ hu) (evM_le _ tt _ _ _) h
 | mapUpdate t x y z =>
  simp only at h
  split at h
  ·obtain ⟨M', S', ρ', w', hr, hK, h1, h2, h3, h5⟩ := updK_ok (P := P) (vm := a.eval x) (vk := a.eval y) (vx := a.eval z) hT h hM hu
   unfold Oper.wp
   have he : (execOp a.eval ⟨dst, .mapUpdate t x y z, ty, ps, af, gd⟩).run P w = .ok .skip w' := by
    simp only [execOp, Sem.run_bind, hr, Result.andThen_ok, Sem.run_pure]
   rw [he]
   refine ⟨_, M', S', ρ', ⟨_, hK, rfl⟩, h1, h2, h3, (hF.mono h1 h2).put _ ?_, h5⟩
   exact RV.tup_mk (RVs.nil _ _)
  ·exact rs (evR_ok hT hM a.eval _ hu) (evM_le _ tt _ _ _) h
 | makeSlice t x y =>
  cases draw with
  | none => exact fin rfl (mkN_ok hT (vl := a.eval x) (vc := a.eval y) h hM hu fun h => makeK_ok hT (vl := a.eval x) (vc := a.eval y) h hM hu)
  | some r => exact fin rfl (makeK_ok hT (vl := a.eval x) (vc := a.eval y) h hM hu)
 | buildSlice t len parts =>
  have hz : ((parts.toList.map (·.1)).zip ((parts.toList.map (·.2)).map a.eval)).toArray = parts.map fun (i, x) => (i, a.eval x) := by
   apply Array.ext'
   simp only [List.toList_toArray, Array.toList_map, List.map_map]
   rw [List.zip_map']
   rfl
  refine fin rfl ?_
  cases draw with
  | none =>
   have := bldN_ok (P := P) (S := S) (F := F) (ρ := ρ) (w := w) (vs := (parts.toList.map (fun p : Nat × Operand => p.2)).map a.eval) hT h hM hu (by simp)
    (fun hA => buildK_ok (P := P) (S := S) (F := F) (ρ := ρ) (w := w) (vs := (parts.toList.map (fun p : Nat × Operand => p.2)).map a.eval) hT (buildM_le hA) hM hu (by simp))
   rw [hz] at this
   exact this
  | some r =>
   have := buildK_ok (P := P) (S := S) (F := F) (ρ := ρ) (w := w) (vs := (parts.toList.map (fun p : Nat × Operand => p.2)).map a.eval) hT (buildM_le h) hM hu (by simp)
   rw [hz] at this
   obtain ⟨v, u, M', S', ρ', w', hr, hK, h1, h2, h3, h4, h5⟩ := this
   have hK' : leakS u M' K := hK
   rcases hK'.out with hK | hK
   ·exact ⟨v, u, M', S', ρ', w', hr, hK, h1, h2, h3, h4, h5⟩
   ·obtain ⟨us', M2, S2, hK2, hle2, hv2, hM2, _⟩ := leakK_ok [u] [v] S' M' _ hK (RVs.cons h4 (RVs.nil _ _)) h3
    cases us' with
    | nil => exact hK2.elim
    | cons x r =>
     cases r with
     | cons _ _ => exact hK2.elim
     | nil =>
      obtain ⟨y, ys, e, hy, _⟩ := hv2.cons_inv
      injection e with e1 _
      subst e1
      exact ⟨v, x, M2, S2, ρ', w', hr, hK2, Store.le_trans h1 hle2, h2, hM2, hy, h5⟩
 | call c =>
  obtain ⟨callee, args, tys⟩ := c
  cases callee with
  | value f =>
   have hcall : ∀ (g : FuncId) (caps : Array Value), a.eval f = .func (.func g) #[] caps → Plain P g → (execOp a.eval ⟨dst, .call ⟨.value f, args, tys⟩, ty, ps, af, gd⟩).run P w = .ok (.enter g (args.map a.eval ++ caps)) w := by
    intro g caps hf ⟨fn, h1, h2, h3⟩
    simp only [execOp, resolve, hf, Deferred.ofValue, Sem.run_bind, Sem.run_pure, Result.andThen_ok, invoke, Array.empty_append, callFunc, run_program, h1, h2, h3, Bool.false_eq_true, if_false]
   simp only [opnds, List.map_cons] at hu
   cases us with
   | nil => simp [RVs] at hu
   | cons u0 us =>
    obtain ⟨v0, vs, e, hv0, hvs⟩ := hu.cons_inv
    injection e with e1 e2
    subst e1; subst e2
    simp only at h
    split at h
    ·rename_i g caps args' e
     injection e with e1 e2
     subst e1; subst e2
     obtain ⟨cv, hf, hcv⟩ := hv0.fn_inv
     have harr : (args.map a.eval ++ cv) = ((args.toList.map a.eval) ++ cv.toList).toArray := by apply Array.ext'; simp
     split at h
     ·rw [catK_eq] at h
      have hpl : Plain P g := by rw [Spec_iff] at h; exact h.1
      unfold Oper.wp
      rw [hcall g cv hf hpl]
      simp only [Oper.upon]
      rw [Spec_iff] at h
      rw [harr]
      refine (h.2 S F ρ _ w hM (hvs.append hcv)).mono ?_
      rintro e w' ⟨v, u, M', S', ρ', rfl, hK, h1, h2, h3, h4, h5⟩
      exact ⟨_, M', S', ρ', ⟨u, hK, rfl⟩, h1, h2, h3, (hF.mono h1 h2).put _ h4, h5⟩
     ·rename_i r
      rw [catK_eq] at h
      have hS : Spec P g (us ++ caps) M K := by
       cases ho : isOwn r with
       | true =>
        rw [callQ_o ho] at h
        exact h
       | false =>
        cases hr : isFresh r with
        | true =>
         rw [callQ_f hr] at h
         exact h.spec
        | false =>
         rw [callQ_p hr ho, callP_iff] at h
         obtain ⟨R, n, hspec, hp, _, hk⟩ := h
         exact Spec.of_pure (M := M) (K := K) (n := n) hspec hp hk
      have hpl : Plain P g := by rw [Spec_iff] at hS; exact hS.1
      unfold Oper.wp
      rw [hcall g cv hf hpl]
      simp only [Oper.upon]
      rw [Spec_iff] at hS
      rw [harr]
      refine (hS.2 S F ρ _ w hM (hvs.append hcv)).mono ?_
      rintro e w' ⟨v, u, M', S', ρ', rfl, hK, h1, h2, h3, h4, h5⟩
      exact ⟨_, M', S', ρ', ⟨u, hK, rfl⟩, h1, h2, h3, (hF.mono h1 h2).put _ h4, h5⟩
    ·exact h.elim
  | invoke r m => exact rs (evR_ok hT hM a.eval _ hu) (evM_le draw tt _ _ _) h
  | builtin b =>
   cases b with
   | append =>
    have : Leaves P S F ρ w (Builtin.append_ tys.toList.toArray ty ((opnds (.call ⟨.builtin .append, args, tys⟩)).map a.eval).toArray) K := by
     cases draw with
     | none => exact appN_ok (P := P) hT h hM hu fun hA => appK2_ok (P := P) (S := S) (F := F) (ρ := ρ) (w := w) (ty := ty) hT (appM_le hA) hM hu
     | some r => exact appK2_ok (P := P) (S := S) (F := F) (ρ := ρ) (w := w) (ty := ty) hT (appM_le h) hM hu
    refine fin (m := Builtin.append_ tys.toList.toArray ty ((opnds (.call ⟨.builtin .append, args, tys⟩)).map a.eval).toArray) ?_ this
    simp only [execOp, resolve, opnds, Array.toArray_toList]
    have e : (args.toList.map a.eval).toArray = args.map a.eval := by apply Array.ext'; simp
    rw [e]
    rfl
   | copy =>
    cases draw with
    | some r => exact rs (evR_ok hT hM a.eval _ hu) (evM_le _ tt _ _ _) h
    | none =>
     have := copyK_ok (P := P) (S := S) (F := F) (ρ := ρ) (w := w) (ty := ty) hT h hM hu
     refine fin (m := Builtin.copy_ tys.toList.toArray ty ((opnds (.call ⟨.builtin .copy, args, tys⟩)).map a.eval).toArray) ?_ this
     simp only [execOp, resolve, opnds, Array.toArray_toList]
     have e : (args.toList.map a.eval).toArray = args.map a.eval := by apply Array.ext'; simp
     rw [e]
     rfl
   | _ => exact rs (evR_ok hT hM a.eval _ hu) (evM_le draw tt _ _ _) h
 | _ => exact rs (evR_ok hT hM a.eval _ hu) (evM_le draw tt _ _ _) h
def dstAt : List Oper → Nat → Option Tmp
 | [], _ => none
 | o :: _, 0 => o.dst
 | _ :: l, n + 1 => dstAt l n
theorem dstAt_eq : ∀ (l : List Oper) (n : Nat), dstAt l n = (l[n]?).bind (·.dst)
 | [], _ => by simp [dstAt]
 | _ :: _, 0 => by simp [dstAt]
 | _ :: l, n + 1 => by rw [dstAt, dstAt_eq l n]; simp
def boolK (b want : Bool) (kt kf : Prop) : Prop :=
 match b, want with
 | true, true => kt
 | false, false => kt
 | true, false => kf
 | false, true => kf
def guardK (all : List Oper) (fr : List AV) (g : Option (Nat × Bool)) (kt kf : Prop) : Prop :=
 match g with
 | none => kt
 | some (j, want) => match dstAt all j with
  | none => False
  | some d => getK fr d fun u => match u with
   | .bool b => boolK b want kt kf
   | .tup _ => kf
   | _ => False
def stepK (P : Program) (tt : TT) (draw : Option DMode) (all : List Oper) (o : Oper) (fr : List AV) (M : Mem) (K : List AV → Mem → Prop) : Prop :=
 guardK all fr o.guard (avsK fr (opnds o.op) fun us => semK P tt draw o us M fun u M' => putD fr o.dst u fun fr' => K fr' M') (putD fr o.dst (.tup []) fun fr' => K fr' M)
theorem guardK_ok {all : List Oper} {a : Act} {fr : List AV} {o : Oper} {kt kf : Prop} (h : guardK all fr o.guard kt kf) (hF : RepF S ρ a fr) :
  if Region.wanted o (yielded all.toArray a.tmps) then kt else kf := by
 unfold guardK at h
 unfold Region.wanted
 cases hg : o.guard with
 | none => rw [hg] at h; simpa using h
 | some p =>
  obtain ⟨j, want⟩ := p
  rw [hg] at h
  simp only at h
  simp only [dstAt_eq] at h
  split at h
  ·exact h.elim
  ·rename_i d hd
   rw [getK_eq] at h
   have hy : yielded all.toArray a.tmps j = match a.tmps[d]? with | some (.bool b) => some b | _ => none := by
    unfold yielded
    have : (all.toArray[j]?).bind (·.dst) = some d := by simpa using hd
    rw [this]
    rfl
   have hr : ∀ u, fr.getD d .top = u → u ≠ .top → ∃ v, a.tmps[d]? = some v ∧ RV S ρ v u := by
    intro u hu hne
    by_cases hl : d < fr.length
    ·have hg : fr[d]? = some u := by rw [← hu]; simp [List.getD, hl]
     obtain ⟨v, hv, hr⟩ := hF.1.2 d u hg
     exact ⟨v, by simpa using hv, hr⟩
    ·exact absurd (by rw [← hu]; simp [List.getD, hl]) hne
   split at h
   ·rename_i b hb
    obtain ⟨v, hv, hvr⟩ := hr _ hb (by simp)
    rw [hv, hvr.bool_inv] at hy
    simp only at hy
    simp only [hy]
    cases b <;> cases want <;> simpa [boolK] using h
   ·rename_i cs hb
    obtain ⟨v, hv, hvr⟩ := hr _ hb (by simp)
    obtain ⟨vs, rfl, _⟩ := hvr.tup_inv
    rw [hv] at hy
    simp only at hy
    simp only [hy]
    simpa using h
   ·exact h.elim
theorem stepK_ok (hT : TOkB P tt = true) {draw : Option DMode} {all : List Oper} {o : Oper} {a : Act} {K : List AV → Mem → Prop} {Q : Exit → Act → World → Prop} {fr : List AV} (h : stepK P tt draw all o fr M K) (hM : RepM S F ρ M w) (hF : RepF S ρ a fr) :
  if Region.wanted o (yielded all.toArray a.tmps) then o.wp P a w (After S F ρ w K) Q else After S F ρ w K (a.put o.dst undef) w := by
 have := guardK_ok h hF
 split
 ·rename_i hw
  rw [if_pos hw, avsK_eq] at this
  refine Oper.wp_mono (fun a' w' h' => ?_) (semK_ok (Q := Q) hT this hM hF (hF.evals _))
  exact h'.mono fun fr' M' ⟨u, hk, e⟩ => by rw [putD_eq] at hk; rw [e]; exact hk
 ·rename_i hw
  rw [if_neg hw, putD_eq] at this
  exact ⟨_, M, S, ρ, this, Store.le_refl _, Env.le_refl _, hM, hF.put _ (RV.tup_mk (RVs.nil _ _)), Wle.refl _⟩
def opsK (P : Program) (tt : TT) (draw : Option DMode) (all : List Oper) : List Oper → List AV → Mem → (List AV → Mem → Prop) → Prop
 | [], fr, M, K => K fr M
 | o :: r, fr, M, K => stepK P tt draw all o fr M fun fr' M' => opsK P tt draw all r fr' M' K
theorem opsK_ok (hT : TOkB P tt = true) {all : List Oper} {K : List AV → Mem → Prop} {Q : Exit → Act → World → Prop} : ∀ (l : List Oper) (S : Store) (ρ : Env) (w : World) (a : Act) (fr : List AV) (M : Mem), opsK P tt none all l fr M K → RepM S F ρ M w → RepF S ρ a fr →
  (∀ a' w', After S F ρ w K a' w' → Q .normal a' w') → wpList P all.toArray Q l a w
 | [], S, ρ, w, a, fr, M, h, hM, hF, hQ => hQ _ _ ⟨fr, M, S, ρ, h, Store.le_refl _, Env.le_refl _, hM, hF, Wle.refl _⟩
 | o :: r, S, ρ, w, a, fr, M, h, hM, hF, hQ => by
  have hs := stepK_ok (Q := Q) hT h hM hF
  unfold wpList
  have next : ∀ a' w', After S F ρ w (fun fr' M' => opsK P tt none all r fr' M' K) a' w' → wpList P all.toArray Q r a' w' := by
   rintro a' w' ⟨fr', M', S', ρ', hk, h1, h2, h3, h4, h5⟩
   exact opsK_ok hT r S' ρ' w' a' fr' M' hk h3 h4 fun a'' w'' h' => hQ _ _ (h'.trans h1 h2 h5)
  split
  ·rename_i hw
   rw [if_pos hw] at hs
   exact .inl (Oper.wp_mono next hs)
  ·rename_i hw
   rw [if_neg hw] at hs
   exact next _ _ hs
end
end Go.Proofs.YtnjggjhkfncnlaaGreatDoor
namespace Go.Proofs.YtnjggjhkfncnlaaGreatDoor
def Det {X : Type 1} (T : (X → Prop) → Prop) : Prop := ∃ p : X → Prop, ∀ K, T K ↔ ∃ x, p x ∧ K x
theorem Det.false {X : Type 1} : Det (fun _ : X → Prop => False) := ⟨fun _ => False, fun K => by simp⟩
theorem Det.one {X : Type 1} (x : X) : Det (fun K : X → Prop => K x) := ⟨fun y => y = x, fun K => by simp⟩
theorem Det.need {X : Type 1} (c : Prop) {T : (X → Prop) → Prop} (h : Det T) : Det (fun K => needK c (T K)) := by
 obtain ⟨p, hp⟩ := h
 refine ⟨fun x => c ∧ p x, fun K => ?_⟩
 simp only [needK_iff]
 show c ∧ T K ↔ _
 rw [hp]
 exact ⟨fun ⟨hc, x, h1, h2⟩ => ⟨x, ⟨hc, h1⟩, h2⟩, fun ⟨x, ⟨hc, h1⟩, h2⟩ => ⟨hc, x, h1, h2⟩⟩
theorem Det.bind {X Y : Type 1} {T : (Y → Prop) → Prop} {U : Y → (X → Prop) → Prop} (h : Det T) (hU : ∀ y, Det (U y)) : Det (fun K => T fun y => U y K) := by
 obtain ⟨p, hp⟩ := h
 refine ⟨fun x => ∃ y, p y ∧ Classical.choose (hU y) x, fun K => ?_⟩
 show T (fun y => U y K) ↔ _
 refine (hp _).trans ?_
 constructor
 ·rintro ⟨y, hy, hK⟩
  obtain ⟨x, h1, h2⟩ := (Classical.choose_spec (hU y) K).1 hK
  exact ⟨x, ⟨y, hy, h1⟩, h2⟩
 ·rintro ⟨x, ⟨y, hy, h1⟩, h2⟩
  exact ⟨y, hy, (Classical.choose_spec (hU y) K).2 ⟨x, h1, h2⟩⟩
theorem Det.congr {X : Type 1} {T T' : (X → Prop) → Prop} (h : Det T) (e : ∀ K, T' K ↔ T K) : Det T' := by
 obtain ⟨p, hp⟩ := h
 exact ⟨p, fun K => (e K).trans (hp K)⟩
theorem Det.ex {X : Type 1} {I : Sort _} {T : I → (X → Prop) → Prop} (h : ∀ i, Det (T i)) : Det (fun K => ∃ i, T i K) := by
 refine ⟨fun x => ∃ i, Classical.choose (h i) x, fun K => ?_⟩
 constructor
 ·rintro ⟨i, hK⟩
  obtain ⟨x, h1, h2⟩ := (Classical.choose_spec (h i) K).1 hK
  exact ⟨x, ⟨i, h1⟩, h2⟩
 ·rintro ⟨x, ⟨i, h1⟩, h2⟩
  exact ⟨i, (Classical.choose_spec (h i) K).2 ⟨x, h1, h2⟩⟩
theorem Det.and {X : Type 1} (c : Prop) {T : (X → Prop) → Prop} (h : Det T) : Det (fun K => c ∧ T K) := by
 obtain ⟨p, hp⟩ := h
 refine ⟨fun x => c ∧ p x, fun K => ?_⟩
 show c ∧ T K ↔ _
 rw [hp]
 exact ⟨fun ⟨hc, x, h1, h2⟩ => ⟨x, ⟨hc, h1⟩, h2⟩, fun ⟨x, ⟨hc, h1⟩, h2⟩ => ⟨hc, x, h1, h2⟩⟩
theorem Det.or {X : Type 1} {T U : (X → Prop) → Prop} (h : Det T) (h' : Det U) : Det (fun K => T K ∨ U K) := by
 obtain ⟨p, hp⟩ := h
 obtain ⟨q, hq⟩ := h'
 refine ⟨fun x => p x ∨ q x, fun K => ?_⟩
 show T K ∨ U K ↔ _
 rw [hp, hq]
 constructor
 ·rintro (⟨x, a, b⟩ | ⟨x, a, b⟩)
  ·exact ⟨x, .inl a, b⟩
  ·exact ⟨x, .inr a, b⟩
 ·rintro ⟨x, a | a, b⟩
  ·exact .inl ⟨x, a, b⟩
  ·exact .inr ⟨x, a, b⟩
theorem det_rsK (r : Rs) : Det (fun K : AV → Prop => rsK r K) := by
 cases r with
 | no => exact Det.false
 | val u => simp only [rsK, forceK_eq]; exact Det.one u
 | need c u => simp only [rsK, forceK_eq]; exact Det.need c (Det.one u)
 | arith c k n => simp only [rsK]; simp only [arithK_iff]; exact Det.and c (Det.one _)
 | cmp p i => simp only [rsK]; simp only [cmpK_iff]; exact Det.one _
theorem det_leak : ∀ (us : List AV) (M : Mem), Det (fun K : List AV × Mem → Prop => leakK us M fun a b => K (a, b))
 | [], M => Det.one ([], M)
 | u :: us, M => by
  have key : ∀ (x : AV) (M' : Mem), Det (fun K : List AV × Mem → Prop => leakK us M' fun us' M'' => K (x :: us', M'')) := fun x M' =>
   (Det.bind (det_leak us M') (fun y : List AV × Mem => Det.one (x :: y.1, y.2))).congr fun K => Iff.rfl
  simp only [leakK]
  split
  ·rename_i ℓ n sz
   split
   ·exact key _ _
   ·exact key _ _
   ·exact Det.false
  ·exact key _ _
theorem det_leakLL : ∀ (css : List (List AV)) (M : Mem), Det (fun K : List (List AV) × Mem → Prop => leakLL css M fun a b => K (a, b))
 | [], M => Det.one ([], M)
 | cs :: r, M => by
  simp only [leakLL]
  refine (Det.bind (det_leak cs M) (U := fun y K => leakLL r y.2 fun r' M'' => K (y.1 :: r', M'')) (fun y => ?_)).congr fun K => Iff.rfl
  exact (Det.bind (det_leakLL r y.2) (fun z : List (List AV) × Mem => Det.one (y.1 :: z.1, z.2))).congr fun K => Iff.rfl
theorem det_store (tt : TT) (t : TypeId) (us : List AV) (M : Mem) : Det (fun K : Mem → Prop => storeK tt t us M K) := by
 unfold storeK
 split
 ·split
  ·split
   ·split
    ·split
     ·split
      ·simp only [forceL_eq]; exact Det.one _
      ·exact Det.false
     ·exact Det.false
    ·rename_i ℓ j o
     refine (Det.bind (det_leak _ M) (U := fun y (K : Mem → Prop) => match y.2 ℓ with
      | some (.row rt d enc l) => match allPers y.1, Nat.ble (o + y.1.length) (enc (l.getD j d)).length with
       | true, true => rowSetK enc (l.getD j d) o y.1 fun a' => K (y.2.set ℓ (.row rt d enc (l.set j a')))
       | _, _ => False
      | _ => False) (fun y => ?_)).congr fun K => Iff.rfl
     split
     ·split
      ·simp only [rowSetK_iff]
       exact Det.ex fun a' => Det.and _ (Det.one _)
      ·exact Det.false
     ·exact Det.false
    ·exact Det.false
   ·exact Det.false
  ·exact Det.false
 ·exact Det.false
theorem det_alloc (tt : TT) (t : TypeId) (dst : Option Tmp) (M : Mem) : Det (fun K : AV × Mem → Prop => allocK tt t dst M fun a b => K (a, b)) := by
 unfold allocK
 split
 ·split
  ·simp only [forceL_eq]; exact Det.one (_, _)
  ·exact Det.false
 ·exact Det.false
theorem det_box (t : TypeId) (us : List AV) (dst : Option Tmp) (M : Mem) : Det (fun K : AV × Mem → Prop => boxK t us dst M fun a b => K (a, b)) := by
 unfold boxK
 split
 ·split
  ·exact (Det.or (Det.and _ (Det.one (_, _))) (Det.one (_, _))).congr fun K => ⟨fun h => h.out, fun h => ⟨h⟩⟩
  ·exact Det.false
 ·exact Det.false
theorem det_make (tt : TT) (t : TypeId) (us : List AV) (dst : Option Tmp) (M : Mem) : Det (fun K : AV × Mem → Prop => makeK tt t us dst M fun a b => K (a, b)) := by
 unfold makeK
 split
 ·split
  ·split
   ·simp only [mkK_iff]
    exact Det.and _ (Det.ex fun α => Det.ex fun d => Det.ex fun enc => Det.ex fun z => Det.and _ (Det.one (_, _)))
   ·exact Det.false
  ·exact Det.false
 ·exact Det.false
theorem det_build (tt : TT) (t : TypeId) (len : Nat) (is : List Nat) (us : List AV) (dst : Option Tmp) (M : Mem) : Det (fun K : AV × Mem → Prop => buildK tt t len is us dst M fun a b => K (a, b)) := by
 unfold buildK
 split
 ·rename_i d _ _ e _ _
  split
  ·rename_i i _
   split
   ·refine (Det.bind (det_leakLL _ M) (U := fun y (K : AV × Mem → Prop) => match y.2 d with
      | none => match allPers2 y.1 with
       | true => match intsOf1 y.1 with
        | some ns => K (.row d len i.size, y.2.set d (.row e (0 : Int) encI ns))
        | none => bldK y.1 fun _ dd enc l => K (.row d len i.size, y.2.set d (.row e dd enc l))
       | false => False
      | some _ => False) (fun y => ?_)).congr fun K => Iff.rfl
    split
    ·split
     ·split
      ·exact Det.one (_, _)
      ·simp only [bldK_iff]
       exact Det.ex fun α => Det.ex fun d => Det.ex fun enc => Det.ex fun z => Det.and _ (Det.one (_, _))
     ·exact Det.false
    ·exact Det.false
   ·exact Det.false
  ·exact Det.false
 ·exact Det.false
theorem det_app (tt : TT) (d : Nat) (e : TypeId) (i : TI) (s x : AV) (M : Mem) (β : Type) (dd' : β) (enc' : β → List AV) (l' : List β) : Det (fun K : AV × Mem → Prop => match Nat.beq (enc' (l'.getD 0 dd')).length i.size with
  | true => match s with
   | .nilsl => needK (l'.length * i.bytes ≤ 140737488355328) (K (.row d l'.length i.size, M.set d (.row e dd' enc' l')))
   | .slc dd enc l => match Nat.beq (enc (l.getD 0 dd)).length i.size with
    | true => needK (0 < l'.length) (appK enc l enc' l' i.bytes fun l'' => K (.row d (l.length + l'.length) i.size, M.set d (.row e dd enc (l ++ l''))))
    | false => False
   | .row ℓ n sz => match M ℓ, Nat.beq sz i.size with
    | some (.row e' dd enc l), true => match Nat.beq e' e, (match x with | .row ℓ' _ _ => !(Nat.beq ℓ ℓ') | _ => true) with
     | true, true => appK enc l enc' l' i.bytes fun l'' => K (.row d (n + l'.length) i.size, (M.set ℓ .dead).set d (.row e dd enc (l ++ l'')))
     | _, _ => False
    | _, _ => False
   | _ => False
  | false => False) := by
 split
 ·split
  ·exact Det.need _ (Det.one (_, _))
  ·split
   ·simp only [appK_iff]
    exact Det.need _ (Det.and _ (Det.ex fun l'' => Det.and _ (Det.one (_, _))))
   ·exact Det.false
  ·split
   ·split
    ·simp only [appK_iff]
     exact Det.and _ (Det.ex fun l'' => Det.and _ (Det.one (_, _)))
    ·exact Det.false
   ·exact Det.false
  ·exact Det.false
 ·exact Det.false
theorem det_src (x : AV) (M : Mem) {X : Type 1} {U : (α : Type) → α → (α → List AV) → List α → (X → Prop) → Prop} (h : ∀ α d enc l, Det (U α d enc l)) : Det (fun K : X → Prop => srcK x M fun α d enc l => U α d enc l K) := by
 unfold srcK
 split
 ·exact h _ _ _ _
 ·split
  ·exact h _ _ _ _
  ·exact h _ _ _ _
  ·exact Det.false
 ·exact h _ _ _ _
 ·exact Det.false
theorem det_append (tt : TT) (ts : List TypeId) (us : List AV) (dst : Option Tmp) (M : Mem) : Det (fun K : AV × Mem → Prop => appendK tt ts us dst M fun a b => K (a, b)) := by
 unfold appendK
 split
 ·split
  ·split
   ·split
    ·exact Det.false
    ·exact det_src _ M fun α d enc l => det_app tt _ _ _ _ _ M α d enc l
   ·exact Det.false
  ·exact Det.false
 ·exact Det.false
theorem det_appendZ (tt : TT) (ts : List TypeId) (us : List AV) (dst : Option Tmp) (M : Mem) : Det (fun K : AV × Mem → Prop => appendZK tt ts us dst M fun a b => K (a, b)) := by
 unfold appendZK
 split
 ·split
  ·split
   ·split
    ·simp only [mkK_iff]
     exact Det.and _ (Det.ex fun α => Det.ex fun d => Det.ex fun enc => Det.ex fun z => Det.and _ (Det.one (_, _)))
    ·exact Det.false
   ·exact Det.false
  ·exact Det.false
 ·exact Det.false
theorem det_app2 (tt : TT) (ts : List TypeId) (us : List AV) (dst : Option Tmp) (M : Mem) : Det (fun K : AV × Mem → Prop => appK2 tt ts us dst M fun a b => K (a, b)) := by
 unfold appK2
 split
 ·exact det_appendZ tt ts _ dst M
 ·exact det_append tt ts us dst M
theorem det_range (tt : TT) (t : TypeId) (us : List AV) (dst : Option Tmp) (M : Mem) : Det (fun K : AV × Mem → Prop => rangeK tt t us dst M fun a b => K (a, b)) := by
 unfold rangeK
 split
 ·split
  ·exact Det.one (_, _)
  ·exact Det.false
 ·exact Det.false
theorem det_next (str : Bool) (us : List AV) (M : Mem) : Det (fun K : AV × Mem → Prop => nextK str us M fun a b => K (a, b)) := by
 unfold nextK
 split
 ·split
  ·rename_i s pos _
   simp only [nextS_iff]
   by_cases h : pos < s.size
   ·exact (Det.one (_, _)).congr fun K => ⟨fun hh => hh.1 h, fun hh => ⟨fun _ => hh, fun hn => absurd h hn⟩⟩
   ·exact (Det.one (_, _)).congr fun K => ⟨fun hh => hh.2 h, fun hh => ⟨fun hp => absurd hp h, fun _ => hh⟩⟩
  ·exact Det.false
 ·exact Det.false
def cls : Op → Nat
 | .load _ _ => 1
 | .store _ _ _ | .alloc _ | .box _ _ | .makeSlice _ _ _ | .buildSlice _ _ _ | .range _ _ | .next _ _ => 3
 | .call c => match c.callee with
  | .value _ => 2
  | .builtin .append => 3
  | _ => 0
 | _ => 0
variable {P : Program} {tt : TT}
theorem semK_r {o : Oper} (h : cls o.op = 0 ∨ cls o.op = 1) (r : DMode) (us : List AV) (M : Mem) (K : AV → Mem → Prop) : semK P tt (some r) o us M K = rsK (evM (some r) tt o.op us M) fun u => K u M := by
 unfold semK
 cases ho : o.op with
 | store _ _ _ => rw [ho] at h; simp [cls] at h
 | alloc _ => rw [ho] at h; simp [cls] at h
 | box _ _ => rw [ho] at h; simp [cls] at h
 | range _ _ => rw [ho] at h; simp [cls] at h
 | next _ _ => rw [ho] at h; simp [cls] at h
 | makeSlice _ _ _ => rw [ho] at h; simp [cls] at h
 | buildSlice _ _ _ => rw [ho] at h; simp [cls] at h
 | call c =>
  obtain ⟨callee, args, tys⟩ := c
  cases callee with
  | value f => rw [ho] at h; simp [cls] at h
  | invoke _ _ => rfl
  | builtin b => cases b <;> first | rfl | (rw [ho] at h; simp [cls] at h)
 | _ => rfl
theorem evR_n {op : Op} (h : cls op = 0) (us : List AV) (M M' : Mem) : evR tt op us M = evR tt op us M' := by
 cases op <;> first | rfl | simp [cls] at h
def clsM (r : DMode) (op : Op) : Nat :=
 match r, op with
 | .pers, .load _ _ => 0
 | .fresh, .load _ _ => 0
 | .boxes as, .load _ x => match slotL as x with
  | none => 0
  | some _ => 1
 | _, op => cls op
theorem evM_n (r : DMode) {op : Op} (h : clsM r op = 0) (us : List AV) (M M' : Mem) : evM (some r) tt op us M = evM (some r) tt op us M' := by
 cases r with
 | any => exact evR_n h us M M'
 | flat => exact evR_n h us M M'
 | own => exact evR_n h us M M'
 | boxes as =>
  unfold evM
  cases op with
  | load t x =>
   simp only [clsM] at h ⊢
   cases hs : slotL as x with
   | some l => rw [hs] at h; cases h
   | none => rfl
  | _ => rfl
 | fresh =>
  unfold evM
  cases op <;> rfl
 | rows =>
  unfold evM
  cases op <;> first | rfl | simp [clsM, cls] at h
 | pers =>
  unfold evM
  cases op <;> rfl
theorem clsM_0 {r : DMode} {op : Op} (h : clsM r op = 0) : cls op = 0 ∨ cls op = 1 := by
 cases r <;> cases op <;> first | exact .inl h | exact .inr rfl
theorem clsM_1 {r : DMode} {op : Op} {n : Nat} (h : clsM r op = n + 1) : cls op = n + 1 := by
 cases r with
 | boxes as =>
  cases op with
  | load t x =>
   simp only [clsM] at h
   split at h
   ·cases h
   ·exact h
  | _ => exact h
 | _ => cases op <;> first | exact h | (simp [clsM] at h)
theorem det_storeM (draw : Option DMode) (tt : TT) (t : TypeId) (p : Operand) (us : List AV) (M : Mem) : Det (fun K : Mem → Prop => storeM draw tt t p us M K) := by
 unfold storeM
 split
 ·split
  ·split
   ·split
    ·exact det_store tt t _ M
    ·exact Det.false
   ·exact Det.false
  ·exact Det.false
 ·split
  ·split
   ·exact det_store tt t _ M
   ·exact Det.false
  ·exact Det.false
 ·exact det_store tt t us M
theorem semK_x {o : Oper} (h : cls o.op = 3) (r : DMode) (us : List AV) (M : Mem) : Det (fun K : AV × Mem → Prop => semK P tt (some r) o us M fun a b => K (a, b)) := by
 unfold semK
 cases ho : o.op with
 | store t p _ => exact (Det.bind (det_storeM (some r) tt t p us M) (fun m => Det.one (.tup [], m))).congr fun K => Iff.rfl
 | alloc t => exact det_alloc tt t o.dst M
 | range t _ => exact det_range tt t us o.dst M
 | next _ str => exact det_next str us M
 | box t _ => exact det_box t us o.dst M
 | makeSlice t _ _ => exact det_make tt t us o.dst M
 | buildSlice t len ps =>
  have leak : ∀ r : DMode, Det (fun K : AV × Mem → Prop => buildK tt t len (ps.toList.map (·.1)) us o.dst M (leakM (some r) fun a b => K (a, b))) := by
   intro r
   refine (Det.bind (det_build tt t len _ us o.dst M) (U := fun z K => leakS z.1 z.2 fun a b => K (a, b)) (fun z => ?_)).congr fun K => Iff.rfl
   simp only [leakS_iff]
   refine Det.or (Det.one (z.1, z.2)) ?_
   refine (Det.bind (det_leak [z.1] z.2) (U := fun y K => match y.1 with | [x] => K (x, y.2) | _ => False) (fun y => ?_)).congr fun K => Iff.rfl
   split
   ·exact Det.one (_, _)
   ·exact Det.false
  unfold buildM
  simp only
  split
  ·split
   ·exact leak r
   ·exact Det.false
  ·exact leak r
 | call c =>
  obtain ⟨callee, args, tys⟩ := c
  cases callee with
  | value f => rw [ho] at h; simp [cls] at h
  | invoke _ _ => rw [ho] at h; simp [cls] at h
  | builtin b =>
   have app : Det (fun K : AV × Mem → Prop => appM (some r) tt args.toList tys.toList us o.dst M fun a b => K (a, b)) := by
    unfold appM
    split
    ·split
     ·split
      ·exact det_app2 tt _ _ o.dst M
      ·exact Det.false
     ·exact det_app2 tt _ us o.dst M
    ·exact det_app2 tt _ us o.dst M
   cases b <;> first | exact app | (rw [ho] at h; simp [cls] at h)
 | _ => rw [ho] at h; simp [cls] at h
end Go.Proofs.YtnjggjhkfncnlaaGreatDoor
namespace Go.Proofs.YtnjggjhkfncnlaaGreatDoor
def gv (all : List Oper) (fr : List AV) : Option (Nat × Bool) → Option Bool
 | none => some true
 | some (j, want) => match dstAt all j with
  | none => none
  | some d => match fr.getD d .top with
   | .bool b => some (b == want)
   | .tup _ => some false
   | _ => none
def tmpsOf : List Operand → List Nat
 | [] => []
 | .tmp t :: r => t :: tmpsOf r
 | _ :: r => tmpsOf r
def slotsOf (all : List Oper) (o : Oper) : List Nat :=
 tmpsOf (opnds o.op) ++ (match o.guard with | some (j, _) => (dstAt all j).toList | none => [])
def apartB (all : List Oper) (x y : Oper) : Bool :=
 (match x.dst with | some d => !(slotsOf all y).contains d && !(decide (y.dst = some d)) | none => true) && (match y.dst with | some d => !(slotsOf all x).contains d | none => true)
def isStore : Op → Bool
 | .store _ _ _ => true
 | _ => false
def isRows : DMode → Bool
 | .rows => true
 | _ => false
def isAlloc : Op → Bool
 | .alloc _ => true
 | _ => false
def isMk (tt : TT) (r : DMode) : Op → Bool
 | .alloc _ => true
 | .makeSlice _ _ _ => true
 | .buildSlice t _ _ => match isFlat r with | true => true | false => scalarT tt t
 | .call c => match c.callee with
  | .builtin .append => isFresh r && nilFirst c.args.toList
  | _ => false
 | _ => false
def allocB (tt : TT) (r : DMode) (x y : Op) : Bool := isMk tt r y && (match clsM r x with
 | 0 => true
 | 1 => true
 | 2 => isFresh r || isAlloc y
 | _ => isMk tt r x)
def addrL (r : DMode) (op : Op) : Option Nat :=
 match r with
 | .boxes as => match op with
  | .load _ x => slotL as x
  | .store _ x _ => slotL as x
  | _ => none
 | _ => none
def boxB (r : DMode) (x y : Op) : Bool :=
 match addrL r x, addrL r y with
 | some a, some b => !(Nat.beq a b)
 | _, _ => false
def isCallV (op : Op) : Bool := Nat.beq (cls op) 2
def commB (tt : TT) (r : DMode) (all : List Oper) (x y : Oper) : Bool :=
 apartB all x y && !(isOwn r && (isCallV x.op || isCallV y.op)) && (allocB tt r x.op y.op || (match clsM r x.op, clsM r y.op with
  | 0, _ => true
  | _, 0 => true
  | 1, 1 => true
  | 1, 2 => true
  | 2, 1 => true
  | _, _ => false) || (isRows r && (decide (cls x.op = 1) && isStore y.op || isStore x.op && decide (cls y.op = 1))) || boxB r x.op y.op)
section
variable {P : Program} {tt : TT} {all : List Oper} {r : DMode}
theorem stepK_eq (draw : Option DMode) (o : Oper) (fr : List AV) (M : Mem) (K : List AV → Mem → Prop) : stepK P tt draw all o fr M K ↔ (match gv all fr o.guard with
  | some true => semK P tt draw o ((opnds o.op).map (avOf fr)) M fun u M' => K (setD fr o.dst u) M'
  | some false => K (setD fr o.dst (.tup [])) M
  | none => False) := by
 unfold stepK guardK gv
 cases o.guard with
 | none => simp only [avsK_eq, putD_eq]
 | some p =>
  obtain ⟨j, want⟩ := p
  simp only
  cases dstAt all j with
  | none => exact Iff.rfl
  | some d =>
   simp only [getK_eq, avsK_eq, putD_eq]
   cases fr.getD d .top with
   | bool b => cases b <;> cases want <;> exact Iff.rfl
   | _ => exact Iff.rfl
theorem getD_set_other {fr : List AV} {d t : Nat} (h : d ≠ t) (u : AV) : (fr.set d u).getD t .top = fr.getD t .top := by
 simp [List.getD, List.getElem?_set_ne h]
theorem avOf_set {fr : List AV} {d : Nat} (u : AV) : ∀ (xs : List Operand), d ∉ tmpsOf xs → xs.map (avOf (fr.set d u)) = xs.map (avOf fr)
 | [], _ => rfl
 | x :: xs, h => by
  cases x with
  | tmp t =>
   simp only [tmpsOf, List.mem_cons, not_or] at h
   simp only [List.map_cons, avOf_set u xs h.2, avOf, getD_set_other h.1]
  | const v => simp only [tmpsOf] at h; simp only [List.map_cons, avOf_set u xs h]; rfl
  | func f => simp only [tmpsOf] at h; simp only [List.map_cons, avOf_set u xs h]; rfl
  | global g => simp only [tmpsOf] at h; simp only [List.map_cons, avOf_set u xs h]; rfl
theorem slots_set {o : Oper} {fr : List AV} {dd : Option Tmp} (h : ∀ d, dd = some d → d ∉ slotsOf all o) (u : AV) :
  (opnds o.op).map (avOf (setD fr dd u)) = (opnds o.op).map (avOf fr) ∧ gv all (setD fr dd u) o.guard = gv all fr o.guard := by
 cases dd with
 | none => exact ⟨rfl, rfl⟩
 | some d =>
  have hd := h d rfl
  simp only [slotsOf, List.mem_append, not_or] at hd
  refine ⟨avOf_set u _ hd.1, ?_⟩
  unfold gv
  cases hg : o.guard with
  | none => rfl
  | some p =>
   obtain ⟨j, want⟩ := p
   rw [hg] at hd
   simp only at hd ⊢
   cases hj : dstAt all j with
   | none => rfl
   | some d' =>
    rw [hj] at hd
    have : d ≠ d' := by simpa using hd.2
    simp only [setD, getD_set_other this]
theorem setD_comm {fr : List AV} {x y : Option Tmp} (h : ∀ d, x = some d → y ≠ some d) (u v : AV) : setD (setD fr x u) y v = setD (setD fr y v) x u := by
 cases x with
 | none => rfl
 | some d =>
  cases y with
  | none => rfl
  | some e =>
   have : d ≠ e := fun he => h d rfl (by rw [he])
   simp only [setD]
   rw [List.set_comm u v this]
theorem apart_spec {x y : Oper} (h : apartB all x y = true) : (∀ d, x.dst = some d → d ∉ slotsOf all y) ∧ (∀ d, x.dst = some d → y.dst ≠ some d) ∧ (∀ d, y.dst = some d → d ∉ slotsOf all x) := by
 unfold apartB at h
 rw [Bool.and_eq_true] at h
 refine ⟨fun d hd => ?_, fun d hd => ?_, fun d hd => ?_⟩
 ·have := h.1; rw [hd] at this; simp at this; exact this.1
 ·have := h.1; rw [hd] at this; simp at this; exact this.2
 ·have := h.2; rw [hd] at this; simpa using this
theorem stepK_shift {o : Oper} {dd : Option Tmp} (h1 : ∀ d, dd = some d → d ∉ slotsOf all o) (h2 : ∀ d, dd = some d → o.dst ≠ some d) (draw : Option DMode) (fr : List AV) (u : AV) (M : Mem) (K : List AV → Mem → Prop) :
  stepK P tt draw all o (setD fr dd u) M K ↔ stepK P tt draw all o fr M fun fr' M' => K (setD fr' dd u) M' := by
 rw [stepK_eq, stepK_eq]
 obtain ⟨e1, e2⟩ := slots_set (fr := fr) h1 u
 rw [e1, e2]
 have e3 : ∀ v, setD (setD fr dd u) o.dst v = setD (setD fr o.dst v) dd u := fun v => setD_comm h2 u v
 simp only [e3]
theorem rs_fun {r : Rs} {x y : AV} (hx : rsK r (fun u => u = x)) (hy : rsK r (fun u => u = y)) : x = y := by
 cases r with
 | no => exact hx.elim
 | val u => simp only [rsK, forceK_eq] at *; rw [← hx, ← hy]
 | need c u => simp only [rsK, forceK_eq] at *; simp only [needK_iff] at *; rw [← hx.2, ← hy.2]
 | arith c k n => simp only [rsK] at *; simp only [arithK_iff] at *; rw [← hx.2, ← hy.2]
 | cmp p i => simp only [rsK] at *; simp only [cmpK_iff] at *; rw [← hx, ← hy]
theorem semK_c {o : Oper} (h : cls o.op = 2) (us : List AV) : (∀ M K, semK P tt (some r) o us M K = False) ∨ ∃ f l, ∀ M K, semK P tt (some r) o us M K = callQ r P f l M K := by
 unfold semK
 cases ho : o.op with
 | call c =>
  obtain ⟨callee, args, tys⟩ := c
  cases callee with
  | value f =>
   simp only
   cases us with
   | nil => exact .inl fun M K => rfl
   | cons u us =>
    cases u with
    | fn f caps => exact .inr ⟨f, us ++ caps, fun M K => by simp only [catK_eq]⟩
    | _ => exact .inl fun M K => rfl
  | invoke _ _ => rw [ho] at h; simp [cls] at h
  | builtin b => rw [ho] at h; cases b <;> simp [cls] at h
 | _ => rw [ho] at h; simp [cls] at h
theorem cls_cases (op : Op) : cls op = 0 ∨ cls op = 1 ∨ cls op = 2 ∨ cls op = 3 := by
 cases op <;> first | (left; rfl) | (right; left; rfl) | (right; right; right; rfl) | skip
 rename_i c
 obtain ⟨callee, args, tys⟩ := c
 cases callee with
 | value f => right; right; left; rfl
 | invoke _ _ => left; rfl
 | builtin b => cases b <;> first | (left; rfl) | (right; right; right; rfl)
theorem storeM_det {t : TypeId} {p : Operand} {us : List AV} {M : Mem} {K : Mem → Prop} (h : storeM (some .rows) tt t p us M K) : ∃ ℓ rt, ∃ (α : Type) (d : α) (enc : α → List AV) (l l' : List α), M ℓ = some (.row rt d enc l) ∧ K (M.set ℓ (.row rt d enc l')) ∧ ∀ K' : Mem → Prop, K' (M.set ℓ (.row rt d enc l')) → storeM (some .rows) tt t p us M K' := by
 have leak : ∀ (cs : List AV) (M : Mem) (K : List AV → Mem → Prop), allPers cs = true → leakK cs M K = K cs M := by
  intro cs
  induction cs with
  | nil => intro M K _; rfl
  | cons u us ih =>
   intro M K hp
   simp only [allPers] at hp
   split at hp
   ·rename_i hu
    cases u with
    | row a b c => simp [persA] at hu
    | _ => simp only [leakK]; rw [ih _ _ hp]
   ·cases hp
 unfold storeM at h
 simp only at h
 split at h
 ·rename_i ℓ j o x
  split at h
  ·rename_i cs hcs
   split at h
   ·rename_i hp
    unfold storeK at h
    simp only [hcs] at h
    split at h
    ·rename_i cs0 i e ht
     cases e
     split at h
     ·rename_i hsz
      rw [leak cs M _ hp] at h
      split at h
      ·rename_i rt α d enc l hl
       split at h
       ·rename_i hp2 hle
        rw [rowSetK_iff] at h
        obtain ⟨a', ha, hK⟩ := h
        refine ⟨ℓ, rt, α, d, enc, l, l.set j a', hl, hK, fun K' hK' => ?_⟩
        unfold storeM
        simp only [hcs, hp]
        unfold storeK
        simp only [hcs, ht, hsz]
        rw [leak cs M _ hp, hl]
        simp only [hp, hle]
        rw [rowSetK_iff]
        exact ⟨a', ha, hK'⟩
       ·exact h.elim
      ·exact h.elim
     ·exact h.elim
    ·exact h.elim
   ·exact h.elim
  ·exact h.elim
 ·exact h.elim
theorem evM_set {t : TypeId} {p : Operand} {us : List AV} {M : Mem} {ℓ : Nat} {rt : TypeId} {α : Type} {d : α} {enc : α → List AV} {l l' : List α} (hl : M ℓ = some (.row rt d enc l)) :
  evM (some .rows) tt (.load t p) us (M.set ℓ (.row rt d enc l')) = evM (some .rows) tt (.load t p) us M := by
 simp only [evM]
 split
 ·rfl
 ·rename_i x hx
  unfold evLoad
  split
  ·rfl
  ·rename_i ℓ' o
   by_cases e : ℓ' = ℓ
   ·subst e; rw [Mem.set_eq, hl]
   ·rw [Mem.set_ne _ _ e]
  ·rename_i ℓ' i o
   exact absurd rfl (hx ℓ' i o)
  ·rfl
 ·rfl
theorem evLoad_ext {M M1 : Mem} (he : ∀ ℓ B, M ℓ = some B → M1 ℓ = some B) {t : TypeId} {x : AV} {k : AV → Prop} (h : rsK (evLoad tt t M x) k) : evLoad tt t M1 x = evLoad tt t M x := by
 unfold evLoad at h ⊢
 cases x with
 | ptr ℓ o =>
  simp only at h ⊢
  cases hM : M ℓ with
  | none => rw [hM] at h; exact h.elim
  | some B => rw [he ℓ B hM]
 | rel ℓ i o =>
  simp only at h ⊢
  cases hM : M ℓ with
  | none => rw [hM] at h; exact h.elim
  | some B => rw [he ℓ B hM]
 | _ => rfl
theorem evM_ext {M M1 : Mem} (he : ∀ ℓ B, M ℓ = some B → M1 ℓ = some B) {op : Op} {us : List AV} {k : AV → Prop} (h : rsK (evM (some r) tt op us M) k) : evM (some r) tt op us M1 = evM (some r) tt op us M := by
 cases r with
 | any =>
  have h : rsK (evR tt op us M) k := h
  show evR tt op us M1 = evR tt op us M
  cases op with
  | load t x =>
   cases us with
   | nil => rfl
   | cons a l =>
    cases l with
    | nil => exact evLoad_ext he h
    | cons _ _ => rfl
  | _ => rfl
 | flat =>
  have h : rsK (evR tt op us M) k := h
  show evR tt op us M1 = evR tt op us M
  cases op with
  | load t x =>
   cases us with
   | nil => rfl
   | cons a l =>
    cases l with
    | nil => exact evLoad_ext he h
    | cons _ _ => rfl
  | _ => rfl
 | own =>
  have h : rsK (evR tt op us M) k := h
  show evR tt op us M1 = evR tt op us M
  cases op with
  | load t x =>
   cases us with
   | nil => rfl
   | cons a l =>
    cases l with
    | nil => exact evLoad_ext he h
    | cons _ _ => rfl
  | _ => rfl
 | rows =>
  cases op with
  | load t x =>
   cases us with
   | nil => rfl
   | cons a l =>
    cases l with
    | nil =>
     cases a with
     | rel _ _ _ => rfl
     | _ => simp only [evM] at h ⊢; exact evLoad_ext he h
    | cons _ _ => simp only [evM]
  | _ => rfl
 | pers => cases op <;> rfl
 | fresh => cases op <;> rfl
 | boxes as =>
  cases op with
  | load t x =>
   simp only [evM] at h ⊢
   cases hs : slotL as x with
   | none => rfl
   | some l =>
    rw [hs] at h
    simp only at h ⊢
    cases us with
    | nil => rfl
    | cons a l =>
     cases l with
     | nil =>
      cases hb : atBox as x a with
      | true =>
       simp only [hb] at h ⊢
       exact evLoad_ext he h
      | false => simp only [hb]
     | cons _ _ => rfl
  | _ => rfl
theorem alloc_inv {t : TypeId} {dst : Option Tmp} {M : Mem} {K : AV → Mem → Prop} (h : allocK tt t dst M K) : ∃ d i, dst = some d ∧ tt.find t = some i ∧ M d = none ∧ K (.ptr d 0) (M.set d (.box t (i.zero.map constA))) := by
 unfold allocK at h
 split at h
 ·rename_i d i ht
  split at h
  ·rename_i hd
   rw [forceL_eq] at h
   exact ⟨d, i, rfl, ht, hd, h⟩
  ·exact h.elim
 ·exact h.elim
theorem alloc_mk {t : TypeId} {dst : Option Tmp} {M : Mem} {K : AV → Mem → Prop} {d : Nat} {i : TI} (h1 : dst = some d) (h2 : tt.find t = some i) (h3 : M d = none) (hk : K (.ptr d 0) (M.set d (.box t (i.zero.map constA)))) : allocK tt t dst M K := by
 subst h1
 unfold allocK
 simp only [h2, h3, forceL_eq]
 exact hk
def MkOk (T : Mem → (AV → Mem → Prop) → Prop) (M : Mem) (K : AV → Mem → Prop) : Prop := ∃ d v B, M d = none ∧ K v (M.set d B) ∧ ∀ (M' : Mem) (K' : AV → Mem → Prop), M' d = none → K' v (M'.set d B) → T M' K'
theorem make_inv {t : TypeId} {us : List AV} {dst : Option Tmp} {M : Mem} {K : AV → Mem → Prop} (h : makeK tt t us dst M K) : MkOk (fun M K => makeK tt t us dst M K) M K := by
 unfold makeK at h
 split at h
 ·rename_i d n c _ _ e _ ht
  split at h
  ·rename_i i hd hi
   split at h
   ·rename_i m hz hb
    rw [mkK_iff] at h
    obtain ⟨h1, α, dd, enc, z, h2, hk⟩ := h
    refine ⟨d, _, _, hd, hk, fun M' K' hd' hk' => ?_⟩
    unfold makeK
    simp only [ht, hd', hi, hz, hb]
    rw [mkK_iff]
    rw [hb] at h1
    exact ⟨h1, α, dd, enc, z, h2, hk'⟩
   ·exact h.elim
  ·exact h.elim
 ·exact h.elim
theorem rowFs_mem : ∀ {cs : List AV}, rowFs cs = true → ∀ u ∈ cs, rowF u = true
 | [], _, u, hu => by cases hu
 | c :: cs, h, u, hu => by
  simp only [rowFs] at h
  split at h
  ·rename_i hc
   rcases List.mem_cons.1 hu with e | hu
   ·rw [e]; exact hc
   ·exact rowFs_mem h u hu
  ·cases h
theorem leakK_flat : ∀ (cs : List AV) (M : Mem) (K : List AV → Mem → Prop), (∀ u ∈ cs, rowF u = true) → leakK cs M K = K cs M
 | [], _, _, _ => rfl
 | u :: us, M, K, h => by
  have hu := h u (List.mem_cons_self ..)
  cases u with
  | row a b c => cases hu
  | _ => simp only [leakK]; rw [leakK_flat us _ _ fun x hx => h x (List.mem_cons_of_mem _ hx)]
theorem leakLL_flat : ∀ (css : List (List AV)) (M : Mem) (K : List (List AV) → Mem → Prop), (∀ cs ∈ css, ∀ u ∈ cs, rowF u = true) → leakLL css M K = K css M
 | [], _, _, _ => rfl
 | cs :: r, M, K, h => by
  simp only [leakLL]
  rw [leakK_flat cs M _ (h cs (List.mem_cons_self ..)), leakLL_flat r M _ fun x hx => h x (List.mem_cons_of_mem _ hx)]
theorem cellsA_flat {u : AV} {cs : List AV} (hu : flat1 u = true) (h1 : cellsA u = some cs) : ∀ x ∈ cs, rowF x = true := by
 cases u with
 | agg l => simp only [cellsA, Option.some.injEq] at h1; subst h1; exact rowFs_mem hu
 | row a b c => cases hu
 | top => cases h1
 | tup l => cases h1
 | val v =>
  simp only [cellsA] at h1
  split at h1
  ·simp only [Option.some.injEq] at h1; subst h1; intro x hx; rw [List.mem_singleton] at hx; subst hx; rfl
  ·cases h1
 | _ => simp only [cellsA, Option.some.injEq] at h1; subst h1; intro x hx; rw [List.mem_singleton] at hx; subst hx; rfl
theorem cellsAll_flat {n : Nat} : ∀ {us : List AV} {css : List (List AV)}, flatAll us = true → cellsAll n us = some css → ∀ cs ∈ css, ∀ u ∈ cs, rowF u = true
 | [], css, _, h => by
  simp only [cellsAll, Option.some.injEq] at h
  subst h
  intro cs hcs
  cases hcs
 | u :: us, css, hf, h => by
  simp only [flatAll] at hf
  split at hf
  ·rename_i hu
   simp only [cellsAll] at h
   split at h
   ·rename_i cs0 r0 h1 h2
    split at h
    ·simp only [Option.some.injEq] at h
     subst h
     intro cs hcs
     rcases List.mem_cons.1 hcs with e | hcs
     ·subst e
      exact cellsA_flat hu h1
     ·exact cellsAll_flat hf h2 cs hcs
    ·cases h
   ·cases h
  ·cases hf
theorem set_set (M : Mem) (d : Nat) (B C : Blk) : (M.set d B).set d C = M.set d C := by
 funext x
 by_cases e : x = d
 ·subst e; rw [Mem.set_eq, Mem.set_eq]
 ·rw [Mem.set_ne _ _ e, Mem.set_ne _ _ e, Mem.set_ne _ _ e]
theorem leakS_mk {d : Nat} {n sz : Nat} {t : TypeId} {α : Type} {dd : α} {enc : α → List AV} {l : List α} {M : Mem} {K : AV → Mem → Prop} (h : leakS (.row d n sz) (M.set d (.row t dd enc l)) K) :
  ∃ v B, K v (M.set d B) ∧ ∀ (M' : Mem) (K' : AV → Mem → Prop), K' v (M'.set d B) → leakS (.row d n sz) (M'.set d (.row t dd enc l)) K' := by
 rcases h.out with h | h
 ·exact ⟨_, _, h, fun M' K' hk => leakN hk⟩
 ·simp only [leakK, Mem.set_eq, set_set] at h
  refine ⟨_, _, h, fun M' K' hk => leakY ?_⟩
  simp only [leakK, Mem.set_eq, set_set]
  exact hk
theorem build_inv {t : TypeId} {len : Nat} {is : List Nat} {us : List AV} {dst : Option Tmp} {M : Mem} {K : AV → Mem → Prop} (hf : flatAll us = true) (h : buildK tt t len is us dst M (leakM (some r) K)) : MkOk (fun M K => buildK tt t len is us dst M (leakM (some r) K)) M K := by
 unfold buildK at h
 split at h
 ·rename_i d _ _ e _ ht
  split at h
  ·rename_i i hi
   split at h
   ·rename_i css0 c1 c2 c3 c4
    rw [leakLL_flat css0 M _ (cellsAll_flat hf c4)] at h
    split at h
    ·rename_i hd
     split at h
     ·rename_i hp
      split at h
      ·rename_i ns hn
       obtain ⟨v, B, hk, back⟩ := leakS_mk h
       refine ⟨d, v, B, hd, hk, fun M' K' hd' hk' => ?_⟩
       unfold buildK
       simp only [ht, hi, c1, c2, c3, c4]
       rw [leakLL_flat css0 M' _ (cellsAll_flat hf c4)]
       simp only [hd', hp, hn]
       exact back M' K' hk'
      ·rename_i hn
       rw [bldK_iff] at h
       obtain ⟨α, dd, enc, l, h1, h⟩ := h
       obtain ⟨v, B, hk, back⟩ := leakS_mk h
       refine ⟨d, v, B, hd, hk, fun M' K' hd' hk' => ?_⟩
       unfold buildK
       simp only [ht, hi, c1, c2, c3, c4]
       rw [leakLL_flat css0 M' _ (cellsAll_flat hf c4)]
       simp only [hd', hp, hn]
       rw [bldK_iff]
       exact ⟨α, dd, enc, l, h1, back M' K' hk'⟩
     ·exact h.elim
    ·exact h.elim
   ·exact h.elim
  ·exact h.elim
 ·exact h.elim
theorem appN_inv {ts : List TypeId} {α : Type} {dd : α} {enc : α → List AV} {l : List α} {dst : Option Tmp} {M : Mem} {K : AV → Mem → Prop} (h : appK2 tt ts [.nilsl, .sl dd enc l] dst M K) : MkOk (fun M K => appK2 tt ts [.nilsl, .sl dd enc l] dst M K) M K := by
 unfold appK2 at h
 simp only at h
 unfold appendK at h
 split at h
 ·rename_i d t t' s x e
  simp only [List.cons.injEq, and_true] at e
  obtain ⟨e1, e2⟩ := e
  subst e1; subst e2
  split at h
  ·rename_i _ _ e _ ht ht' hd
   split at h
   ·rename_i i hi
    split at h
    ·exact h.elim
    ·rename_i m hb
     simp only [srcK] at h
     split at h
     ·rename_i hsz
      rw [needK_iff] at h
      obtain ⟨h1, hk⟩ := h
      refine ⟨d, _, _, hd, hk, fun M' K' hd' hk' => ?_⟩
      unfold appK2
      simp only
      unfold appendK
      simp only [ht, ht', hd', hi, srcK, hsz]
      split
      ·rename_i hb0; rw [hb] at hb0; cases hb0
      ·rw [needK_iff]; exact ⟨h1, hk'⟩
     ·exact h.elim
   ·exact h.elim
  ·exact h.elim
 ·exact h.elim
theorem mk_inv {o : Oper} (hm : isMk tt r o.op = true) {us : List AV} {M : Mem} {K : AV → Mem → Prop} (h : semK P tt (some r) o us M K) : MkOk (fun M K => semK P tt (some r) o us M K) M K := by
 unfold semK at h ⊢
 cases ho : o.op with
 | alloc t =>
  rw [ho] at h
  simp only at h ⊢
  obtain ⟨d, i, h1, h2, h3, hk⟩ := alloc_inv h
  exact ⟨d, _, _, h3, hk, fun M' K' hd' hk' => alloc_mk h1 h2 hd' hk'⟩
 | makeSlice t x y =>
  rw [ho] at h
  simp only at h ⊢
  exact make_inv h
 | buildSlice t len ps =>
  rw [ho] at h hm
  have hs : (match isFlat r with | true => true | false => scalarT tt t) = true := hm
  simp only [buildM, hs] at h ⊢
  cases hf : flatAll us with
  | true =>
   rw [hf] at h
   exact build_inv hf h
  | false => rw [hf] at h; exact h.elim
 | call c =>
  rw [ho] at h hm
  obtain ⟨callee, args, tys⟩ := c
  cases callee with
  | builtin b =>
   cases b with
   | append =>
    simp only [isMk, Bool.and_eq_true] at hm
    have hr : r = .fresh := by cases r <;> first | rfl | (exact absurd hm.1 (by simp [isFresh]))
    subst hr
    simp only [appM, hm.2] at h ⊢
    split at h
    ·exact appN_inv h
    ·exact h.elim
   | _ => cases hm
  | _ => cases hm
 | _ => rw [ho] at hm; cases hm
theorem atBox_ptr {as : List (Nat × Nat)} {x : Operand} {a : AV} (h : atBox as x a = true) : ∃ ℓ o, a = .ptr ℓ o ∧ slotL as x = some ℓ := by
 cases a with
 | ptr ℓ o =>
  simp only [atBox] at h
  cases hs : slotL as x with
  | none => rw [hs] at h; cases h
  | some ℓ' =>
   rw [hs] at h
   exact ⟨ℓ, o, rfl, by rw [Nat.eq_of_beq_eq_true h]⟩
 | _ => cases h
theorem boxS_inv {as : List (Nat × Nat)} {t : TypeId} {p : Operand} {us : List AV} {M : Mem} {K : Mem → Prop} (h : storeM (some (.boxes as)) tt t p us M K) : ∃ ℓ B, slotL as p = some ℓ ∧ K (M.set ℓ B) ∧ ∀ (M' : Mem) (K' : Mem → Prop), M' ℓ = M ℓ → K' (M'.set ℓ B) → storeM (some (.boxes as)) tt t p us M' K' := by
 unfold storeM at h
 simp only at h
 split at h
 ·rename_i a x
  split at h
  ·rename_i hb
   obtain ⟨ℓ, o, rfl, hs⟩ := atBox_ptr hb
   unfold storeK at h
   simp only at h
   split at h
   ·rename_i cs i hcs ht
    split at h
    ·rename_i hsz
     split at h
     ·rename_i bt cells hM
      split at h
      ·rename_i h1 h2
       rw [forceL_eq] at h
       refine ⟨ℓ, _, hs, h, fun M' K' hM' hK' => ?_⟩
       unfold storeM
       simp only [hb]
       unfold storeK
       simp only [hcs, ht, hsz, hM', hM, h1, h2]
       rw [forceL_eq]
       exact hK'
      ·exact h.elim
     ·exact h.elim
    ·exact h.elim
   ·exact h.elim
  ·exact h.elim
 ·exact h.elim
theorem boxL_ext {as : List (Nat × Nat)} {t : TypeId} {x : Operand} {us : List AV} {M : Mem} {ℓ ℓ' : Nat} {B : Blk} (hs : slotL as x = some ℓ') (hne : ℓ' ≠ ℓ) : evM (some (.boxes as)) tt (.load t x) us (M.set ℓ B) = evM (some (.boxes as)) tt (.load t x) us M := by
 simp only [evM, hs]
 cases us with
 | nil => rfl
 | cons a l =>
  cases l with
  | cons _ _ => rfl
  | nil =>
   simp only
   cases hb : atBox as x a with
   | false => rfl
   | true =>
    obtain ⟨k, o, rfl, hk⟩ := atBox_ptr hb
    rw [hs] at hk
    cases hk
    show evLoad tt t (M.set ℓ B) (.ptr ℓ' o) = evLoad tt t M (.ptr ℓ' o)
    unfold evLoad
    simp only
    rw [Mem.set_ne _ _ hne]
theorem sem_swap {x y : Oper} (ho : isOwn r = true → cls x.op ≠ 2 ∧ cls y.op ≠ 2) (hc : (allocB tt r x.op y.op || (match clsM r x.op, clsM r y.op with
  | 0, _ => true
  | _, 0 => true
  | 1, 1 => true
  | 1, 2 => true
  | 2, 1 => true
  | _, _ => false) || (isRows r && (decide (cls x.op = 1) && isStore y.op || isStore x.op && decide (cls y.op = 1))) || boxB r x.op y.op) = true) (ux uy : List AV) (M : Mem) (K : AV → AV → Mem → Prop)
  (h : semK P tt (some r) x ux M fun u M1 => semK P tt (some r) y uy M1 fun v M2 => K u v M2) : semK P tt (some r) y uy M fun v M2 => semK P tt (some r) x ux M2 fun u M1 => K u v M1 := by
 have rx : cls x.op = 0 ∨ cls x.op = 1 → ∀ M K, semK P tt (some r) x ux M K = rsK (evM (some r) tt x.op ux M) fun u => K u M := fun h M K => semK_r h r ux M K
 have ry : cls y.op = 0 ∨ cls y.op = 1 → ∀ M K, semK P tt (some r) y uy M K = rsK (evM (some r) tt y.op uy M) fun u => K u M := fun h M K => semK_r h r uy M K
 have RR : (cls x.op = 0 ∨ cls x.op = 1) → (cls y.op = 0 ∨ cls y.op = 1) → semK P tt (some r) y uy M fun v M2 => semK P tt (some r) x ux M2 fun u M1 => K u v M1 := by
  intro hx hy
  rw [rx hx] at h
  rw [ry hy]
  obtain ⟨u, hu, h⟩ := rsK_ex h
  rw [ry hy] at h
  obtain ⟨v, hv, h⟩ := rsK_ex h
  refine rsK_mono hv fun v' e => ?_
  subst e
  rw [rx hx]
  refine rsK_mono hu fun u' e => ?_
  subst e
  exact h
 have fresh0 : ∀ op, isFresh r = true → (cls op = 0 ∨ cls op = 1) → clsM r op = 0 := by
  intro op hr h
  have hr : r = .fresh := by cases r <;> first | rfl | cases hr
  subst hr
  cases op with
  | load t p => rfl
  | call c =>
   rcases h with h | h
   ·exact h
   ·obtain ⟨callee, args, tys⟩ := c
    cases callee with
    | builtin b => cases b <;> simp [cls] at h
    | _ => simp [cls] at h
  | _ => first | rfl | (rcases h with h | h <;> simp [cls] at h)
 have RC : (cls x.op = 0 ∨ cls x.op = 1) → cls y.op = 2 → semK P tt (some r) y uy M fun v M2 => semK P tt (some r) x ux M2 fun u M1 => K u v M1 := by
  intro hx hy
  rw [rx hx] at h
  obtain ⟨u, hu, h⟩ := rsK_ex h
  rcases semK_c (P := P) (tt := tt) (r := r) hy uy with hf | ⟨f, l, hf⟩
  ·rw [hf] at h; exact h.elim
  ·rw [hf] at h ⊢
   by_cases hr : isFresh r = true
   ·rw [callQ_f hr] at h ⊢
    refine h.mono fun v M1 hk => ?_
    rw [rx hx, evM_n r (fresh0 _ hr hx) ux M1 M]
    refine rsK_mono hu fun u' e => ?_
    subst e
    exact hk
   have hr : isFresh r = false := by cases hh : isFresh r <;> first | rfl | exact absurd hh hr
   have hro : isOwn r = false := by cases hh : isOwn r <;> first | rfl | exact absurd hy (ho hh).2
   rw [callQ_p hr hro] at h ⊢
   simp only [callP_iff] at *
   obtain ⟨R, n, h1, h2, h3, h4⟩ := h
   refine ⟨R, n, h1, h2, h3, fun v hv => ?_⟩
   show semK P tt (some r) x ux M fun u M1 => K u v M1
   rw [rx hx]
   refine rsK_mono hu fun u' e => ?_
   subst e
   exact h4 v hv
 have CR : cls x.op = 2 → (cls y.op = 0 ∨ cls y.op = 1) → semK P tt (some r) y uy M fun v M2 => semK P tt (some r) x ux M2 fun u M1 => K u v M1 := by
  intro hx hy
  rw [ry hy]
  rcases semK_c (P := P) (tt := tt) (r := r) hx ux with hf | ⟨f, l, hf⟩
  ·rw [hf] at h; exact h.elim
  ·rw [hf] at h
   by_cases hr : isFresh r = true
   ·rw [callQ_f hr] at h
    obtain ⟨R, n, lb, L2, u', hs, ha, hb, hf2, hr2, hk⟩ := h.out
    rw [ry hy, evM_n r (fresh0 _ hr hy) uy _ M] at hk
    obtain ⟨v, hv, hk⟩ := rsK_ex hk
    refine rsK_mono hv fun v' e => ?_
    subst e
    rw [hf, callQ_f hr]
    exact ⟨R, n, lb, L2, u', hs, ha, hb, hf2, hr2, hk⟩
   have hr : isFresh r = false := by cases hh : isFresh r <;> first | rfl | exact absurd hh hr
   have hro : isOwn r = false := by cases hh : isOwn r <;> first | rfl | exact absurd hx (ho hh).1
   rw [callQ_p hr hro] at h
   rw [callP_iff] at h
   obtain ⟨R, n, h1, h2, ⟨u0, hu0⟩, h4⟩ := h
   have h0 : semK P tt (some r) y uy M fun v M2 => K u0 v M2 := h4 u0 hu0
   rw [ry hy] at h0
   obtain ⟨v, hv, _⟩ := rsK_ex h0
   refine rsK_mono hv fun v' e => ?_
   subst e
   rw [hf, callQ_p hr hro]
   rw [callP_iff]
   refine ⟨R, n, h1, h2, ⟨u0, hu0⟩, fun u hu => ?_⟩
   have h5 : semK P tt (some r) y uy M fun v M2 => K u v M2 := h4 u hu
   rw [ry hy] at h5
   obtain ⟨v2, hv2, h6⟩ := rsK_ex h5
   rw [rs_fun hv hv2]
   exact h6
 have NX : clsM r x.op = 0 → cls y.op = 3 → semK P tt (some r) y uy M fun v M2 => semK P tt (some r) x ux M2 fun u M1 => K u v M1 := by
  intro hx hy
  rw [rx (clsM_0 hx)] at h
  obtain ⟨u, hu, h⟩ := rsK_ex h
  obtain ⟨p, hp⟩ := semK_x (P := P) (tt := tt) hy r uy M
  obtain ⟨⟨v, M2⟩, h1, h2⟩ := (hp fun z => K u z.1 z.2).1 h
  refine (hp fun z => semK P tt (some r) x ux z.2 fun u M1 => K u z.1 M1).2 ⟨(v, M2), h1, ?_⟩
  show semK P tt (some r) x ux M2 fun u M1 => K u v M1
  rw [rx (clsM_0 hx), evM_n r hx ux M2 M]
  refine rsK_mono hu fun u' e => ?_
  subst e
  exact h2
 have XN : cls x.op = 3 → clsM r y.op = 0 → semK P tt (some r) y uy M fun v M2 => semK P tt (some r) x ux M2 fun u M1 => K u v M1 := by
  intro hx hy
  obtain ⟨p, hp⟩ := semK_x (P := P) (tt := tt) hx r ux M
  obtain ⟨⟨u, M1⟩, h1, h2⟩ := (hp fun z => semK P tt (some r) y uy z.2 fun v M2 => K z.1 v M2).1 h
  simp only at h2
  rw [ry (clsM_0 hy), evM_n r hy uy M1 M] at h2
  obtain ⟨v, hv, h2⟩ := rsK_ex h2
  rw [ry (clsM_0 hy)]
  refine rsK_mono hv fun v' e => ?_
  subst e
  exact (hp fun z => K z.1 v' z.2).2 ⟨(u, M1), h1, h2⟩
 have LS : cls x.op = 1 → isStore y.op = true → isRows r = true → semK P tt (some r) y uy M fun v M2 => semK P tt (some r) x ux M2 fun u M1 => K u v M1 := by
  intro hx hy hr
  have hr : r = .rows := by cases r <;> first | rfl | cases hr
  subst hr
  rw [rx (.inr hx)] at h
  obtain ⟨u, hu, h⟩ := rsK_ex h
  obtain ⟨t, p, hop⟩ : ∃ t p, x.op = .load t p := by
   cases hox : x.op with
   | load t p => exact ⟨t, p, rfl⟩
   | call c =>
    rw [hox] at hx
    obtain ⟨callee, args, tys⟩ := c
    cases callee with
    | builtin b => cases b <;> simp [cls] at hx
    | _ => simp [cls] at hx
   | _ => rw [hox] at hx; simp [cls] at hx
  cases hoy : y.op with
  | store t2 p2 q2 =>
   simp only [semK, hoy] at h ⊢
   obtain ⟨ℓ, rt, α, d, enc, l, l', hl, hK, hback⟩ := storeM_det h
   refine hback _ ?_
   have := rx (.inr hx) (M.set ℓ (.row rt d enc l')) (fun u M1 => K u (.tup []) M1)
   unfold semK at this
   rw [this, hop, evM_set hl, ← hop]
   refine rsK_mono hu fun u' e => ?_
   subst e
   exact hK
  | _ => rw [hoy] at hy; cases hy
 have SL : isStore x.op = true → cls y.op = 1 → isRows r = true → semK P tt (some r) y uy M fun v M2 => semK P tt (some r) x ux M2 fun u M1 => K u v M1 := by
  intro hx hy hr
  have hr : r = .rows := by cases r <;> first | rfl | cases hr
  subst hr
  rw [ry (.inr hy)]
  obtain ⟨t, p, hop⟩ : ∃ t p, y.op = .load t p := by
   cases hox : y.op with
   | load t p => exact ⟨t, p, rfl⟩
   | call c =>
    rw [hox] at hy
    obtain ⟨callee, args, tys⟩ := c
    cases callee with
    | builtin b => cases b <;> simp [cls] at hy
    | _ => simp [cls] at hy
   | _ => rw [hox] at hy; simp [cls] at hy
  cases hoy : x.op with
  | store t2 p2 q2 =>
   have h2 : storeM (some .rows) tt t2 p2 ux M fun M1 => semK P tt (some .rows) y uy M1 fun v M2 => K (.tup []) v M2 := by
    have := h
    unfold semK at this
    rw [hoy] at this
    exact this
   obtain ⟨ℓ, rt, α, d, enc, l, l', hl, hK, hback⟩ := storeM_det h2
   rw [ry (.inr hy), hop, evM_set hl, ← hop] at hK
   refine rsK_mono hK fun v hv => ?_
   unfold semK
   rw [hoy]
   exact hback _ hv
  | _ => rw [hoy] at hx; cases hx
 have AL : allocB tt r x.op y.op = true → semK P tt (some r) y uy M fun v M2 => semK P tt (some r) x ux M2 fun u M1 => K u v M1 := by
  intro hb
  unfold allocB at hb
  rw [Bool.and_eq_true] at hb
  obtain ⟨hy, hx⟩ := hb
  have ext : ∀ {d : Nat} {B : Blk}, M d = none → ∀ ℓ C, M ℓ = some C → (M.set d B) ℓ = some C := by
   intro d B hd ℓ C hC
   rw [Mem.set_ne _ _ (fun e => by rw [e, hd] at hC; cases hC)]
   exact hC
  have rd : cls x.op = 0 ∨ cls x.op = 1 → semK P tt (some r) y uy M fun v M2 => semK P tt (some r) x ux M2 fun u M1 => K u v M1 := by
   intro hcx
   rw [rx hcx] at h
   obtain ⟨u, hu, h⟩ := rsK_ex h
   obtain ⟨d, v, B, h3, hk, back⟩ := mk_inv hy h
   refine back M _ h3 ?_
   rw [rx hcx, evM_ext (ext h3) hu]
   refine rsK_mono hu fun u' e => ?_
   subst e
   exact hk
  rcases cls_cases x.op with hcx | hcx | hcx | hcx
  ·exact rd (.inl hcx)
  ·exact rd (.inr hcx)
  ·have hcm : clsM r x.op = 2 := by
    cases r <;> cases hox : x.op <;> first | (rw [hox] at hcx; exact hcx) | (rw [hox] at hcx; simp [cls] at hcx)
   rw [hcm] at hx
   rcases semK_c (P := P) (tt := tt) (r := r) hcx ux with hf | ⟨f, l, hf⟩
   ·rw [hf] at h; exact h.elim
   ·rw [hf] at h
    by_cases hr : isFresh r = true
    ·rw [callQ_f hr] at h
     obtain ⟨R, n, lb, L2, u', hs, ha, hb, hf2, hr2, h0⟩ := h.out
     obtain ⟨d, v, B, h3, hk, back⟩ := mk_inv hy h0
     have h4 : callL P f l M fun u M1 => M1 d = none ∧ K u v (M1.set d B) := ⟨R, n, lb, L2, u', hs, ha, hb, hf2, hr2, h3, hk⟩
     obtain ⟨hd, h5⟩ := h4.beside (K := fun u M' => K u v M')
     refine back M _ hd ?_
     rw [hf, callQ_f hr]
     exact h5
    have hr : isFresh r = false := by cases hh : isFresh r <;> first | rfl | exact absurd hh hr
    have hro : isOwn r = false := by cases hh : isOwn r <;> first | rfl | exact absurd hcx (ho hh).1
    have hya : isAlloc y.op = true := by simpa [hr] using hx
    obtain ⟨t, hoy⟩ : ∃ t, y.op = .alloc t := by
     cases hoy : y.op with
     | alloc t => exact ⟨t, rfl⟩
     | _ => rw [hoy] at hya; cases hya
    have ey : ∀ M K, semK P tt (some r) y uy M K = allocK tt t y.dst M K := by
     intro M K
     unfold semK
     rw [hoy]
    rw [ey]
    rw [callQ_p hr hro, callP_iff] at h
    obtain ⟨R, n, h1, h2, ⟨u0, hu0⟩, h4⟩ := h
    have h5 := h4 u0 hu0
    rw [ey] at h5
    obtain ⟨d, i, e1, e2, e3, _⟩ := alloc_inv h5
    refine alloc_mk e1 e2 e3 ?_
    rw [hf, callQ_p hr hro, callP_iff]
    refine ⟨R, n, h1, h2, ⟨u0, hu0⟩, fun u hu => ?_⟩
    have h6 := h4 u hu
    rw [ey] at h6
    obtain ⟨d', i', e1', e2', e3', hk⟩ := alloc_inv h6
    rw [e1] at e1'; cases e1'
    rw [e2] at e2'; cases e2'
    exact hk
  ·have hcm : clsM r x.op = 3 := by
    cases r <;> cases hox : x.op <;> first | (rw [hox] at hcx; exact hcx) | (rw [hox] at hcx; simp [cls] at hcx)
   rw [hcm] at hx
   obtain ⟨d', v', B', f3, h, back'⟩ := mk_inv hx h
   obtain ⟨d, v, B, e3, hk, back⟩ := mk_inv hy h
   have hne : d ≠ d' := fun e => by subst e; rw [Mem.set_eq] at e3; cases e3
   rw [Mem.set_ne _ _ hne] at e3
   refine back M _ e3 (back' (M.set d B) _ (by rw [Mem.set_ne _ _ (Ne.symm hne)]; exact f3) ?_)
   rw [Mem.set_comm _ _ _ hne]
   exact hk
 by_cases hbx : boxB r x.op y.op = true
 ·cases r with
  | boxes as =>
   simp only [boxB, addrL] at hbx
   cases hox : x.op with
   | load t1 p1 =>
    cases hoy : y.op with
    | load t2 p2 => exact RR (by rw [hox]; exact .inr rfl) (by rw [hoy]; exact .inr rfl)
    | store t2 p2 q2 =>
     rw [hox, hoy] at hbx
     simp only at hbx
     cases h1 : slotL as p1 with
     | none => rw [h1] at hbx; cases hbx
     | some l1 =>
      rw [rx (by rw [hox]; exact .inr rfl)] at h
      obtain ⟨u, hu, h⟩ := rsK_ex h
      simp only [semK, hoy] at h ⊢
      obtain ⟨l2, B, h2, hk, back⟩ := boxS_inv h
      rw [h1, h2] at hbx
      have hne : l1 ≠ l2 := fun e => by subst e; simp at hbx
      refine back M _ rfl ?_
      have e := rx (by rw [hox]; exact .inr rfl) (M.set l2 B) (fun u M1 => K u (.tup []) M1)
      unfold semK at e
      rw [e, hox, boxL_ext h1 hne, ← hox]
      refine rsK_mono hu fun u' e => ?_
      subst e
      exact hk
    | _ => exfalso; rw [hox, hoy] at hbx; simp only at hbx; cases hq : slotL as p1 <;> rw [hq] at hbx <;> cases hbx
   | store t1 p1 q1 =>
    cases hoy : y.op with
    | load t2 p2 =>
     rw [hox, hoy] at hbx
     simp only at hbx
     have h' : storeM (some (.boxes as)) tt t1 p1 ux M fun M1 => semK P tt (some (.boxes as)) y uy M1 fun v M2 => K (.tup []) v M2 := by
      have := h
      unfold semK at this
      rw [hox] at this
      exact this
     obtain ⟨l1, B, h1, hk, back⟩ := boxS_inv h'
     cases h2 : slotL as p2 with
     | none => rw [h1, h2] at hbx; cases hbx
     | some l2 =>
      rw [h1, h2] at hbx
      have hne : l2 ≠ l1 := fun e => by subst e; simp at hbx
      rw [ry (by rw [hoy]; exact .inr rfl), hoy, boxL_ext h2 hne, ← hoy] at hk
      rw [ry (by rw [hoy]; exact .inr rfl)]
      refine rsK_mono hk fun v hv => ?_
      unfold semK
      rw [hox]
      exact back M _ rfl hv
    | store t2 p2 q2 =>
     rw [hox, hoy] at hbx
     simp only at hbx
     have h' : storeM (some (.boxes as)) tt t1 p1 ux M fun M1 => storeM (some (.boxes as)) tt t2 p2 uy M1 fun M2 => K (.tup []) (.tup []) M2 := by
      have := h
      unfold semK at this
      rw [hox, hoy] at this
      exact this
     obtain ⟨l1, B1, h1, hk, back1⟩ := boxS_inv h'
     obtain ⟨l2, B2, h2, hk2, back2⟩ := boxS_inv hk
     rw [h1, h2] at hbx
     have hne : l1 ≠ l2 := fun e => by subst e; simp at hbx
     unfold semK
     rw [hoy]
     simp only
     refine back2 M _ (by rw [Mem.set_ne _ _ (Ne.symm hne)]) ?_
     rw [hox]
     simp only
     refine back1 _ _ (by rw [Mem.set_ne _ _ hne]) ?_
     rw [Mem.set_comm _ _ _ (Ne.symm hne)]
     exact hk2
    | _ => exfalso; rw [hox, hoy] at hbx; simp only at hbx; cases hq : slotL as p1 <;> rw [hq] at hbx <;> cases hbx
   | _ => exfalso; rw [hox] at hbx; simp only at hbx; cases hbx
  | _ => cases hbx
 have hbx : boxB r x.op y.op = false := by cases hh : boxB r x.op y.op <;> first | rfl | exact absurd hh hbx
 rw [hbx, Bool.or_false] at hc
 by_cases hal : allocB tt r x.op y.op = true
 ·exact AL hal
 have hal : allocB tt r x.op y.op = false := by cases hh : allocB tt r x.op y.op <;> first | rfl | exact absurd hh hal
 rw [hal, Bool.false_or] at hc
 by_cases hsp : (isRows r && (decide (cls x.op = 1) && isStore y.op || isStore x.op && decide (cls y.op = 1))) = true
 ·simp only [Bool.and_eq_true, Bool.or_eq_true, decide_eq_true_eq] at hsp
  rcases hsp.2 with h2 | h2
  ·exact LS h2.1 h2.2 hsp.1
  ·exact SL h2.1 h2.2 hsp.1
 replace hc : (match clsM r x.op, clsM r y.op with
  | 0, _ => true
  | _, 0 => true
  | 1, 1 => true
  | 1, 2 => true
  | 2, 1 => true
  | _, _ => false) = true := by
  rw [Bool.or_eq_true] at hc
  exact hc.resolve_right hsp
 have cc : ∀ op, clsM r op = 0 ∨ clsM r op = 1 ∨ clsM r op = 2 ∨ clsM r op = 3 := by
  intro op
  have := cls_cases op
  cases r with
  | boxes as =>
   cases op with
   | load t x =>
    simp only [clsM]
    cases slotL as x with
    | none => exact .inl rfl
    | some _ => exact .inr (.inl rfl)
   | _ => exact this
  | _ => cases op <;> first | exact .inl rfl | exact this
 rcases cc x.op with hx | hx | hx | hx <;> rcases cc y.op with hy | hy | hy | hy <;>
  first
   | exact RR (clsM_0 hx) (clsM_0 hy)
   | exact RR (clsM_0 hx) (.inr (clsM_1 hy))
   | exact RR (.inr (clsM_1 hx)) (clsM_0 hy)
   | exact RR (.inr (clsM_1 hx)) (.inr (clsM_1 hy))
   | exact RC (clsM_0 hx) (clsM_1 hy)
   | exact RC (.inr (clsM_1 hx)) (clsM_1 hy)
   | exact CR (clsM_1 hx) (clsM_0 hy)
   | exact CR (clsM_1 hx) (.inr (clsM_1 hy))
   | exact NX hx (clsM_1 hy)
   | exact XN (clsM_1 hx) hy
   | (rw [hx, hy] at hc; simp at hc)
theorem semK_false {o : Oper} (hno : isOwn r = true → cls o.op ≠ 2) (us : List AV) (M : Mem) (h : semK P tt (some r) o us M fun _ _ => False) : False := by
 rcases cls_cases o.op with hc | hc | hc | hc
 ·rw [semK_r (.inl hc)] at h; obtain ⟨_, _, h⟩ := rsK_ex h; exact h
 ·rw [semK_r (.inr hc)] at h; obtain ⟨_, _, h⟩ := rsK_ex h; exact h
 ·rcases semK_c (P := P) (tt := tt) (r := r) hc us with hf | ⟨f, l, hf⟩
  ·rw [hf] at h; exact h
  ·rw [hf] at h
   by_cases hr : isFresh r = true
   ·rw [callQ_f hr] at h
    obtain ⟨R, n, lb, L2, u', hs, ha, hb, hf2, hr2, hk⟩ := h.out
    exact hk
   have hr : isFresh r = false := by cases hh : isFresh r <;> first | rfl | exact absurd hh hr
   have hro : isOwn r = false := by cases hh : isOwn r <;> first | rfl | exact absurd hc (hno hh)
   rw [callQ_p hr hro] at h
   rw [callP_iff] at h
   obtain ⟨R, n, h1, h2, ⟨u0, hu0⟩, h4⟩ := h
   exact h4 u0 hu0
 ·obtain ⟨p, hp⟩ := semK_x (P := P) (tt := tt) hc r us M
  obtain ⟨_, _, h⟩ := (hp fun _ => False).1 h
  exact h
theorem semK_mono {o : Oper} {us : List AV} {M : Mem} {K K' : AV → Mem → Prop} (h : semK P tt (some r) o us M K) (hk : ∀ u M', K u M' → K' u M') : semK P tt (some r) o us M K' := by
 rcases cls_cases o.op with hc | hc | hc | hc
 ·rw [semK_r (.inl hc)] at *; exact rsK_mono h fun u => hk u M
 ·rw [semK_r (.inr hc)] at *; exact rsK_mono h fun u => hk u M
 ·rcases semK_c (P := P) (tt := tt) (r := r) hc us with hf | ⟨f, l, hf⟩
  ·rw [hf] at h; exact h.elim
  ·rw [hf] at *
   by_cases hr : isFresh r = true
   ·rw [callQ_f hr] at h ⊢
    exact h.mono hk
   have hr : isFresh r = false := by cases hh : isFresh r <;> first | rfl | exact absurd hh hr
   by_cases hro : isOwn r = true
   ·rw [callQ_o hro] at h ⊢
    exact h.mono hk
   have hro : isOwn r = false := by cases hh : isOwn r <;> first | rfl | exact absurd hh hro
   rw [callQ_p hr hro] at h ⊢
   simp only [callP_iff] at *
   obtain ⟨R, n, h1, h2, h3, h4⟩ := h
   exact ⟨R, n, h1, h2, h3, fun u hu => hk u M (h4 u hu)⟩
 ·obtain ⟨p, hp⟩ := semK_x (P := P) (tt := tt) hc r us M
  obtain ⟨z, h1, h2⟩ := (hp fun z => K z.1 z.2).1 h
  exact (hp fun z => K' z.1 z.2).2 ⟨z, h1, hk _ _ h2⟩
theorem stepK_mono {o : Oper} {fr : List AV} {M : Mem} {K K' : List AV → Mem → Prop} (h : stepK P tt (some r) all o fr M K) (hk : ∀ f M', K f M' → K' f M') : stepK P tt (some r) all o fr M K' := by
 rw [stepK_eq] at *
 split at h
 ·exact semK_mono h fun u M' => hk _ _
 ·exact hk _ _ h
 ·exact h
theorem commB_no {x y : Oper} (hc : commB tt r all x y = true) (ho : isOwn r = true) : cls x.op ≠ 2 ∧ cls y.op ≠ 2 := by
 unfold commB at hc
 rw [Bool.and_eq_true, Bool.and_eq_true] at hc
 have h := hc.1.2
 rw [ho] at h
 constructor
 ·intro e
  unfold isCallV at h
  rw [e] at h
  simp at h
 ·intro e
  unfold isCallV at h
  rw [e] at h
  simp at h
theorem step_swap {x y : Oper} (hc : commB tt r all x y = true) (fr : List AV) (M : Mem) (K : List AV → Mem → Prop)
  (h : stepK P tt (some r) all x fr M fun fr1 M1 => stepK P tt (some r) all y fr1 M1 K) : stepK P tt (some r) all y fr M fun fr2 M2 => stepK P tt (some r) all x fr2 M2 K := by
 have hno := commB_no hc
 unfold commB at hc
 rw [Bool.and_eq_true, Bool.and_eq_true] at hc
 obtain ⟨⟨hap, _⟩, hcl⟩ := hc
 obtain ⟨a1, a2, a3⟩ := apart_spec hap
 have a4 : ∀ d, y.dst = some d → x.dst ≠ some d := fun d hd he => a2 d he hd
 rw [stepK_eq] at h
 cases hgx : gv all fr x.guard with
 | none => rw [hgx] at h; exact h.elim
 | some bx =>
  rw [hgx] at h
  cases bx with
  | false =>
   simp only at h
   rw [stepK_shift a1 a2] at h
   refine (?_ : stepK P tt (some r) all y fr M fun fr2 M2 => stepK P tt (some r) all x fr2 M2 K)
   rw [stepK_eq] at h ⊢
   split at h
   ·refine semK_mono h fun v M' hv => ?_
    rw [stepK_eq, (slots_set (fr := fr) a3 v).2, hgx]
    exact hv
   ·rw [stepK_eq, (slots_set (fr := fr) a3 _).2, hgx]
    exact h
   ·exact h
  | true =>
   simp only at h
   have h' : semK P tt (some r) x ((opnds x.op).map (avOf fr)) M fun u M1 => stepK P tt (some r) all y fr M1 fun fr2 M2 => K (setD fr2 x.dst u) M2 :=
    semK_mono h fun u M1 hh => (stepK_shift a1 a2 (some r) fr u M1 K).1 hh
   rw [stepK_eq]
   have hx : ∀ v M2 K, stepK P tt (some r) all x (setD fr y.dst v) M2 K ↔ semK P tt (some r) x ((opnds x.op).map (avOf fr)) M2 fun u M1 => K (setD (setD fr y.dst v) x.dst u) M1 := by
    intro v M2 K
    rw [stepK_eq, (slots_set (fr := fr) a3 v).2, hgx, (slots_set (fr := fr) a3 v).1]
   cases hgy : gv all fr y.guard with
   | none =>
    exfalso
    refine semK_false (fun hh => (hno hh).1) _ _ (semK_mono h' fun u M1 hh => ?_)
    rw [stepK_eq, hgy] at hh
    exact hh
   | some bb =>
    cases bb with
    | false =>
     simp only
     rw [hx]
     refine semK_mono h' fun u M1 hh => ?_
     rw [stepK_eq, hgy] at hh
     exact hh
    | true =>
     simp only
     simp only [hx]
     refine sem_swap (x := x) (y := y) hno hcl _ _ M (fun u v M' => K (setD (setD fr y.dst v) x.dst u) M') (semK_mono h' fun u M1 hh => ?_)
     rw [stepK_eq, hgy] at hh
     exact hh
end
end Go.Proofs.YtnjggjhkfncnlaaGreatDoor
namespace Go.Proofs.YtnjggjhkfncnlaaGreatDoor
def pathB : Nat → List Oper → Nat → Nat → Bool
 | 0, _, _, _ => false
 | n + 1, all, i, j => match all[j]? with
  | some o => o.after.toList.any fun e => Region.binds .any e && (decide (e.on = i) || pathB n all i e.on)
  | none => false
def edgesB : List Oper → Nat → Bool
 | [], _ => true
 | o :: r, k => o.after.toList.all (fun e => !(Region.binds .any e) || decide (e.on < k)) && edgesB r (k + 1)
def drawB (tt : TT) (r : DMode) (all : List Oper) : Bool :=
 edgesB all 0 && (List.range all.length).all fun i => (List.range all.length).all fun j => decide (j ≤ i) ||
  (match all[i]?, all[j]? with | some x, some y => commB tt r all x y | _, _ => false) || pathB all.length all i j
section
variable {P : Program} {tt : TT} {all : List Oper} {K : List AV → Mem → Prop} {r : DMode}
theorem edgesB_ok : ∀ (l : List Oper) (k : Nat), edgesB l k = true → ∀ (i : Nat) o, l[i]? = some o → ∀ e ∈ o.after, Region.binds .any e = true → e.on < k + i
 | [], _, _, i, o, h => by simp at h
 | x :: r, k, h, i, o, hi => by
  simp only [edgesB, Bool.and_eq_true] at h
  intro e he hb
  cases i with
  | zero =>
   simp at hi; subst hi
   have := List.all_eq_true.1 h.1 e (by simpa using he)
   rw [hb] at this
   simpa using this
  | succ i =>
   have := edgesB_ok r (k + 1) h.2 i o (by simpa using hi) e he hb
   omega
def stT (P : Program) (tt : TT) (r : DMode) (all : List Oper) (i : Nat) (fr : List AV) (M : Mem) (K : List AV → Mem → Prop) : Prop :=
 match all[i]? with
 | none => K fr M
 | some o => stepK P tt (some r) all o fr M K
def wpAnyA (P : Program) (tt : TT) (r : DMode) (all : List Oper) (K : List AV → Mem → Prop) : Nat → Array Bool → List AV → Mem → Prop
 | 0, listed, fr, M => Region.ready .any all.toArray listed = [] ∧ K fr M
 | fuel + 1, listed, fr, M => (Region.ready .any all.toArray listed = [] → K fr M) ∧
  ∀ i ∈ Region.ready .any all.toArray listed, stT P tt r all i fr M (wpAnyA P tt r all K fuel (listed.setIfInBounds i true))
theorem wpAnyA_ok (hT : TOkB P tt = true) {F : Store} {Q : Exit → Act → World → Prop} : ∀ (fuel : Nat) (listed : Array Bool) (S : Store) (ρ : Env) (w : World) (a : Act) (fr : List AV) (M : Mem), wpAnyA P tt r all K fuel listed fr M → RepM S F ρ M w → RepF S ρ a fr →
  (∀ a' w', After S F ρ w K a' w' → Q .normal a' w') → wpAny P .any all.toArray Q fuel listed a w
 | 0, listed, S, ρ, w, a, fr, M, h, hM, hF, hQ => ⟨h.1, hQ _ _ ⟨fr, M, S, ρ, h.2, Store.le_refl _, Env.le_refl _, hM, hF, Wle.refl _⟩⟩
 | fuel + 1, listed, S, ρ, w, a, fr, M, h, hM, hF, hQ => by
  refine ⟨fun h0 => hQ _ _ ⟨fr, M, S, ρ, h.1 h0, Store.le_refl _, Env.le_refl _, hM, hF, Wle.refl _⟩, fun i hi => ?_⟩
  have hs := h.2 i hi
  unfold stT at hs
  unfold wpOp
  obtain ⟨_, o, ho, _⟩ := mem_ready.1 hi
  have ho' : all[i]? = some o := by simpa using ho
  rw [ho'] at hs
  rw [ho]
  simp only at hs ⊢
  have hk := stepK_ok (Q := Q) hT hs hM hF
  have next : ∀ a' w', After S F ρ w (wpAnyA P tt r all K fuel (listed.setIfInBounds i true)) a' w' → wpAny P .any all.toArray Q fuel (listed.setIfInBounds i true) a' w' := by
   rintro a' w' ⟨fr', M', S', ρ', hk, h1, h2, h3, h4, h5⟩
   exact wpAnyA_ok hT fuel _ S' ρ' w' a' fr' M' hk h3 h4 fun a'' w'' h' => hQ _ _ (h'.trans h1 h2 h5)
  split
  ·rename_i hw
   rw [if_pos hw] at hk
   exact .inl (Oper.wp_mono next hk)
  ·rename_i hw
   rw [if_neg hw] at hk
   exact next _ _ hk
def Closed (all : List Oper) (listed : Array Bool) : Prop :=
 listed.size = all.length ∧ ∀ (j : Nat) o, all[j]? = some o → listed.getD j true = true → ∀ e ∈ o.after, Region.binds .any e = true → listed.getD e.on false = true
theorem path_listed {listed : Array Bool} (hc : Closed all listed) : ∀ (n i j : Nat), pathB n all i j = true → (∀ o, all[j]? = some o → ∀ e ∈ o.after, Region.binds .any e = true → listed.getD e.on false = true) → listed.getD i false = true
 | 0, i, j, h, _ => by simp [pathB] at h
 | n + 1, i, j, h, hj => by
  simp only [pathB] at h
  split at h
  ·rename_i o ho
   obtain ⟨e, he, hb⟩ := List.any_eq_true.1 h
   rw [Bool.and_eq_true, Bool.or_eq_true] at hb
   have hl := hj o ho e (by simpa using he) hb.1
   rcases hb.2 with h1 | h1
   ·have : e.on = i := by simpa using h1
    rw [← this]; exact hl
   ·refine path_listed hc n i e.on h1 fun o' ho' e' he' hb' => hc.2 e.on o' ho' ?_ e' he' hb'
    have hlt : e.on < listed.size := by rw [hc.1]; exact (List.getElem?_eq_some_iff.1 ho').1
    simpa [hlt] using hl
  ·simp at h
theorem closed_set {listed : Array Bool} (hc : Closed all listed) {j : Nat} (hj : j ∈ Region.ready .any all.toArray listed) : Closed all (listed.setIfInBounds j true) := by
 refine ⟨by simp [hc.1], fun i o hi hl e he hb => ?_⟩
 obtain ⟨_, o', ho', hall⟩ := mem_ready.1 hj
 by_cases hij : i = j
 ·subst hij
  have : o' = o := by
   have h1 : all.toArray[i]? = some o := by simpa using hi
   rw [ho'] at h1; injection h1
  subst this
  exact getD_set_true (hall e he hb)
 ·rw [getD_set_ne true (Ne.symm hij)] at hl
  exact getD_set_true (hc.2 i o hi hl e he hb)
theorem step_false {o : Oper} (hno : isOwn r = true → cls o.op ≠ 2) {fr : List AV} {M : Mem} (h : stepK P tt (some r) all o fr M fun _ _ => False) : False := by
 rw [stepK_eq] at h
 split at h
 ·exact semK_false hno _ _ h
 ·exact h
 ·exact h
theorem draw_comm (hB : drawB tt r all = true) {k j : Nat} {x : Oper} (hx : all[k]? = some x) {listed : Array Bool} (hc : Closed all listed) (hpre : ∀ m, m < k → listed.getD m true = true) (hk : k ∈ Region.ready .any all.toArray listed)
  (hj : j ∈ Region.ready .any all.toArray listed) (hjk : j ≠ k) : ∃ y, all[j]? = some y ∧ k < j ∧ commB tt r all x y = true := by
 obtain ⟨hjun, y, hy, hall⟩ := mem_ready.1 hj
 have hy' : all[j]? = some y := by simpa using hy
 have hklt : k < j := by
  rcases Nat.lt_or_ge k j with h | h
  ·exact h
  ·exfalso
   have := hpre j (by omega)
   rw [this] at hjun; cases hjun
 have hkun := (mem_ready.1 hk).1
 have hlen := (List.getElem?_eq_some_iff.1 hx).1
 have hjlen := (List.getElem?_eq_some_iff.1 hy').1
 refine ⟨y, hy', hklt, ?_⟩
 unfold drawB at hB
 rw [Bool.and_eq_true] at hB
 have h1 := List.all_eq_true.1 hB.2 k (List.mem_range.2 hlen)
 have h2 := List.all_eq_true.1 h1 j (List.mem_range.2 hjlen)
 rw [hx, hy', Bool.or_eq_true, Bool.or_eq_true] at h2
 rcases h2 with (h2 | h2) | h2
 ·simp at h2; omega
 ·exact h2
 ·exfalso
  have := path_listed hc _ k j h2 (fun o ho e he hb => by
   rw [hy'] at ho; cases ho; exact hall e he hb)
  have hks : k < listed.size := by rw [hc.1]; exact hlen
  simp [hks] at this hkun
  rw [this] at hkun; cases hkun
theorem draw_first (hB : drawB tt r all = true) {k : Nat} {x : Oper} (hx : all[k]? = some x) : ∀ (fuel : Nat) (listed : Array Bool) (fr : List AV) (M : Mem), Closed all listed → (∀ m, m < k → listed.getD m true = true) →
  k ∈ Region.ready .any all.toArray listed → stepK P tt (some r) all x fr M (wpAnyA P tt r all K fuel (listed.setIfInBounds k true)) → wpAnyA P tt r all K (fuel + 1) listed fr M := by
 intro fuel
 induction fuel with
 | zero =>
  intro listed fr M hc hpre hk H
  refine ⟨fun h => (by rw [h] at hk; cases hk), fun j hj => ?_⟩
  by_cases hjk : j = k
  ·subst hjk
   unfold stT
   rw [hx]
   exact H
  ·exfalso
   obtain ⟨y, _, _, hcomm⟩ := draw_comm hB hx hc hpre hk hj hjk
   refine step_false (fun ho => (commB_no hcomm ho).1) (stepK_mono H fun f M' h => ?_)
   have := ready_mono hj hjk
   rw [h.1] at this
   cases this
 | succ fuel ih =>
  intro listed fr M hc hpre hk H
  refine ⟨fun h => (by rw [h] at hk; cases hk), fun j hj => ?_⟩
  by_cases hjk : j = k
  ·subst hjk
   unfold stT
   rw [hx]
   exact H
  ·obtain ⟨y, hy', hklt, hcomm⟩ := draw_comm hB hx hc hpre hk hj hjk
   unfold stT
   rw [hy']
   have H2 := stepK_mono H fun f M' (h : wpAnyA P tt r all K (fuel + 1) (listed.setIfInBounds k true) f M') => h.2 j (ready_mono hj hjk)
   have H3 : stepK P tt (some r) all x fr M fun f M' => stepK P tt (some r) all y f M' (wpAnyA P tt r all K fuel ((listed.setIfInBounds k true).setIfInBounds j true)) :=
    stepK_mono H2 fun f M' h => by unfold stT at h; rw [hy'] at h; exact h
   have H4 := step_swap hcomm fr M _ H3
   refine stepK_mono H4 fun f M' h => ?_
   refine ih (listed.setIfInBounds j true) f M' (closed_set hc hj) (fun m hm => by rw [getD_set_ne true (by omega)]; exact hpre m hm) (ready_mono hk (fun e => hjk e.symm)) ?_
   rw [Array.setIfInBounds_comm _ _ hjk]
   exact h
theorem draw_text (hB : drawB tt r all = true) : ∀ (l : List Oper) (k : Nat) (listed : Array Bool) (fr : List AV) (M : Mem), all.drop k = l → k + l.length = all.length → Closed all listed → (∀ m, m < k → listed.getD m true = true) → (∀ m, k ≤ m → m < all.length → listed.getD m true = false) →
  opsK P tt (some r) all l fr M K → wpAnyA P tt r all K l.length listed fr M
 | [], k, listed, fr, M, hd, hl, hc, h1, h2, h => by
  refine ⟨?_, h⟩
  cases hr : Region.ready .any all.toArray listed with
  | nil => rfl
  | cons j r =>
   have hj : j ∈ Region.ready .any all.toArray listed := by rw [hr]; simp
   obtain ⟨hu, o, ho, _⟩ := mem_ready.1 hj
   have : j < all.length := by have := (Array.getElem?_eq_some_iff.1 ho).1; simpa using this
   simp at hl
   rw [h1 j (by omega)] at hu; cases hu
 | o :: r, k, listed, fr, M, hd, hl, hc, h1, h2, h => by
  simp only [List.length_cons] at hl ⊢
  have hk : all[k]? = some o := by
   have : (all.drop k)[0]? = some o := by rw [hd]; rfl
   rw [List.getElem?_drop] at this
   simpa using this
  have hB' := hB
  unfold drawB at hB'
  rw [Bool.and_eq_true] at hB'
  have hready : k ∈ Region.ready .any all.toArray listed := by
   rw [mem_ready]
   refine ⟨h2 k (Nat.le_refl _) (by omega), o, by simpa using hk, fun e he hb => ?_⟩
   have hlt := edgesB_ok all 0 hB'.1 k o hk e he hb
   have := h1 e.on (by omega)
   have hs : e.on < listed.size := by rw [hc.1]; omega
   simpa [hs] using this
  refine draw_first hB hk r.length listed fr M hc h1 hready (stepK_mono h fun f M' hh => ?_)
  refine draw_text hB r (k + 1) _ f M' (by rw [← List.drop_drop, hd]; rfl) (by omega) (closed_set hc hready) (fun m hm => ?_) (fun m hm hml => ?_) hh
  ·by_cases e : m = k
   ·subst e
    have hs : m < listed.size := by rw [hc.1]; omega
    simp [hs]
   ·rw [getD_set_ne true (Ne.symm e)]; exact h1 m (by omega)
  ·rw [getD_set_ne true (by omega)]; exact h2 m (by omega) hml
theorem draw_region (hT : TOkB P tt = true) (hm : P.follows .mixedOrders = true) (hB : drawB tt r all = true) {S F : Store} {ρ : Env} {M : Mem} {w : World} {a : Act} {fr : List AV} {id : Nat} {Q : Exit → Act → World → Prop}
  (h : opsK P tt (some r) all all fr M K) (hM : RepM S F ρ M w) (hF : RepF S ρ a fr) (hQ : ∀ a' w', After S F ρ w K a' w' → Q .normal a' w') : (Code.region id all.toArray true).wp P Q a w := by
 refine wp_region_any hm ?_
 have hA := draw_text (P := P) (tt := tt) (K := K) hB all 0 (Array.replicate all.length false) fr M rfl (by simp) ⟨by simp, fun j o hj hl => by
   have := (List.getElem?_eq_some_iff.1 hj).1
   simp [this] at hl⟩ (by simp) (fun m _ hm => by simp [hm]) h
 have := wpAnyA_ok hT all.length _ S ρ { w with drawn := w.drawn + 1 } a fr M hA (hM.drawn _) hF (Q := Q) (fun a' w' h' => hQ a' w' (h'.trans (Store.le_refl _) (Env.le_refl _) (Wle.drawn _ _ (Nat.le_succ _))))
 simpa using this
end
def ordB (ds : List Nat) (o : Oper) : Bool := match o.dst with
 | some d => !(ds.any (Nat.beq d))
 | none => true
def mdO (r : DMode) (ds : List Nat) (o : Oper) : DMode := match ordB ds o with
 | true => r
 | false => .own
theorem mdO_r {r : DMode} {ds : List Nat} {o : Oper} (h : ordB ds o = true) : mdO r ds o = r := by unfold mdO; rw [h]
def drawB2 (tt : TT) (r : DMode) (ds : List Nat) (all : List Oper) : Bool :=
 edgesB all 0 && (List.range all.length).all fun i => (List.range all.length).all fun j => decide (j ≤ i) ||
  (match all[i]?, all[j]? with | some x, some y => ordB ds x && ordB ds y && commB tt r all x y | _, _ => false) || pathB all.length all i j
def opsK2 (P : Program) (tt : TT) (r : DMode) (ds : List Nat) (all : List Oper) : List Oper → List AV → Mem → (List AV → Mem → Prop) → Prop
 | [], fr, M, K => K fr M
 | o :: l, fr, M, K => stepK P tt (some (mdO r ds o)) all o fr M fun fr' M' => opsK2 P tt r ds all l fr' M' K
section
variable {P : Program} {tt : TT} {all : List Oper} {K : List AV → Mem → Prop} {r : DMode} {ds : List Nat}
def stT2 (P : Program) (tt : TT) (r : DMode) (ds : List Nat) (all : List Oper) (i : Nat) (fr : List AV) (M : Mem) (K : List AV → Mem → Prop) : Prop :=
 match all[i]? with
 | none => K fr M
 | some o => stepK P tt (some (mdO r ds o)) all o fr M K
def wpAnyA2 (P : Program) (tt : TT) (r : DMode) (ds : List Nat) (all : List Oper) (K : List AV → Mem → Prop) : Nat → Array Bool → List AV → Mem → Prop
 | 0, listed, fr, M => Region.ready .any all.toArray listed = [] ∧ K fr M
 | fuel + 1, listed, fr, M => (Region.ready .any all.toArray listed = [] → K fr M) ∧
  ∀ i ∈ Region.ready .any all.toArray listed, stT2 P tt r ds all i fr M (wpAnyA2 P tt r ds all K fuel (listed.setIfInBounds i true))
theorem wpAnyA_ok2 (hT : TOkB P tt = true) {F : Store} {Q : Exit → Act → World → Prop} : ∀ (fuel : Nat) (listed : Array Bool) (S : Store) (ρ : Env) (w : World) (a : Act) (fr : List AV) (M : Mem), wpAnyA2 P tt r ds all K fuel listed fr M → RepM S F ρ M w → RepF S ρ a fr →
  (∀ a' w', After S F ρ w K a' w' → Q .normal a' w') → wpAny P .any all.toArray Q fuel listed a w
 | 0, listed, S, ρ, w, a, fr, M, h, hM, hF, hQ => ⟨h.1, hQ _ _ ⟨fr, M, S, ρ, h.2, Store.le_refl _, Env.le_refl _, hM, hF, Wle.refl _⟩⟩
 | fuel + 1, listed, S, ρ, w, a, fr, M, h, hM, hF, hQ => by
  refine ⟨fun h0 => hQ _ _ ⟨fr, M, S, ρ, h.1 h0, Store.le_refl _, Env.le_refl _, hM, hF, Wle.refl _⟩, fun i hi => ?_⟩
  have hs := h.2 i hi
  unfold stT2 at hs
  unfold wpOp
  obtain ⟨_, o, ho, _⟩ := mem_ready.1 hi
  have ho' : all[i]? = some o := by simpa using ho
  rw [ho'] at hs
  rw [ho]
  simp only at hs ⊢
  have hk := stepK_ok (Q := Q) hT hs hM hF
  have next : ∀ a' w', After S F ρ w (wpAnyA2 P tt r ds all K fuel (listed.setIfInBounds i true)) a' w' → wpAny P .any all.toArray Q fuel (listed.setIfInBounds i true) a' w' := by
   rintro a' w' ⟨fr', M', S', ρ', hk, h1, h2, h3, h4, h5⟩
   exact wpAnyA_ok2 hT fuel _ S' ρ' w' a' fr' M' hk h3 h4 fun a'' w'' h' => hQ _ _ (h'.trans h1 h2 h5)
  split
  ·rename_i hw
   rw [if_pos hw] at hk
   exact .inl (Oper.wp_mono next hk)
  ·rename_i hw
   rw [if_neg hw] at hk
   exact next _ _ hk
theorem draw_comm2 (hB : drawB2 tt r ds all = true) {k j : Nat} {x : Oper} (hx : all[k]? = some x) {listed : Array Bool} (hc : Closed all listed) (hpre : ∀ m, m < k → listed.getD m true = true) (hk : k ∈ Region.ready .any all.toArray listed)
  (hj : j ∈ Region.ready .any all.toArray listed) (hjk : j ≠ k) : ∃ y, all[j]? = some y ∧ k < j ∧ mdO r ds x = r ∧ mdO r ds y = r ∧ commB tt r all x y = true := by
 obtain ⟨hjun, y, hy, hall⟩ := mem_ready.1 hj
 have hy' : all[j]? = some y := by simpa using hy
 have hklt : k < j := by
  rcases Nat.lt_or_ge k j with h | h
  ·exact h
  ·exfalso
   have := hpre j (by omega)
   rw [this] at hjun; cases hjun
 have hkun := (mem_ready.1 hk).1
 have hlen := (List.getElem?_eq_some_iff.1 hx).1
 have hjlen := (List.getElem?_eq_some_iff.1 hy').1
 refine ⟨y, hy', hklt, ?_⟩
 unfold drawB2 at hB
 rw [Bool.and_eq_true] at hB
 have h1 := List.all_eq_true.1 hB.2 k (List.mem_range.2 hlen)
 have h2 := List.all_eq_true.1 h1 j (List.mem_range.2 hjlen)
 rw [hx, hy', Bool.or_eq_true, Bool.or_eq_true] at h2
 rcases h2 with (h2 | h2) | h2
 ·simp at h2; omega
 ·rw [Bool.and_eq_true, Bool.and_eq_true] at h2
  exact ⟨mdO_r h2.1.1, mdO_r h2.1.2, h2.2⟩
 ·exfalso
  have := path_listed hc _ k j h2 (fun o ho e he hb => by
   rw [hy'] at ho; cases ho; exact hall e he hb)
  have hks : k < listed.size := by rw [hc.1]; exact hlen
  simp [hks] at this hkun
  rw [this] at hkun; cases hkun
theorem draw_first2 (hB : drawB2 tt r ds all = true) {k : Nat} {x : Oper} (hx : all[k]? = some x) : ∀ (fuel : Nat) (listed : Array Bool) (fr : List AV) (M : Mem), Closed all listed → (∀ m, m < k → listed.getD m true = true) →
  k ∈ Region.ready .any all.toArray listed → stepK P tt (some (mdO r ds x)) all x fr M (wpAnyA2 P tt r ds all K fuel (listed.setIfInBounds k true)) → wpAnyA2 P tt r ds all K (fuel + 1) listed fr M := by
 intro fuel
 induction fuel with
 | zero =>
  intro listed fr M hc hpre hk H
  refine ⟨fun h => (by rw [h] at hk; cases hk), fun j hj => ?_⟩
  by_cases hjk : j = k
  ·subst hjk
   unfold stT2
   rw [hx]
   exact H
  ·exfalso
   obtain ⟨y, _, _, ex, _, hcomm⟩ := draw_comm2 hB hx hc hpre hk hj hjk
   rw [ex] at H
   refine step_false (fun ho => (commB_no hcomm ho).1) (stepK_mono H fun f M' h => ?_)
   have := ready_mono hj hjk
   rw [h.1] at this
   cases this
 | succ fuel ih =>
  intro listed fr M hc hpre hk H
  refine ⟨fun h => (by rw [h] at hk; cases hk), fun j hj => ?_⟩
  by_cases hjk : j = k
  ·subst hjk
   unfold stT2
   rw [hx]
   exact H
  ·obtain ⟨y, hy', hklt, ex, ey, hcomm⟩ := draw_comm2 hB hx hc hpre hk hj hjk
   unfold stT2
   rw [hy']
   have H2 := stepK_mono H fun f M' (h : wpAnyA2 P tt r ds all K (fuel + 1) (listed.setIfInBounds k true) f M') => h.2 j (ready_mono hj hjk)
   have H3 : stepK P tt (some (mdO r ds x)) all x fr M fun f M' => stepK P tt (some (mdO r ds y)) all y f M' (wpAnyA2 P tt r ds all K fuel ((listed.setIfInBounds k true).setIfInBounds j true)) :=
    stepK_mono H2 fun f M' h => by unfold stT2 at h; rw [hy'] at h; exact h
   rw [ex, ey] at H3
   have H4 := step_swap hcomm fr M _ H3
   show stepK P tt (some (mdO r ds y)) all y fr M (wpAnyA2 P tt r ds all K (fuel + 1) (listed.setIfInBounds j true))
   rw [ey]
   refine stepK_mono H4 fun f M' h => ?_
   refine ih (listed.setIfInBounds j true) f M' (closed_set hc hj) (fun m hm => by rw [getD_set_ne true (by omega)]; exact hpre m hm) (ready_mono hk (fun e => hjk e.symm)) ?_
   rw [Array.setIfInBounds_comm _ _ hjk, ex]
   exact h
theorem draw_text2 (hB : drawB2 tt r ds all = true) : ∀ (l : List Oper) (k : Nat) (listed : Array Bool) (fr : List AV) (M : Mem), all.drop k = l → k + l.length = all.length → Closed all listed → (∀ m, m < k → listed.getD m true = true) → (∀ m, k ≤ m → m < all.length → listed.getD m true = false) →
  opsK2 P tt r ds all l fr M K → wpAnyA2 P tt r ds all K l.length listed fr M
 | [], k, listed, fr, M, hd, hl, hc, h1, h2, h => by
  refine ⟨?_, h⟩
  cases hr : Region.ready .any all.toArray listed with
  | nil => rfl
  | cons j r =>
   have hj : j ∈ Region.ready .any all.toArray listed := by rw [hr]; simp
   obtain ⟨hu, o, ho, _⟩ := mem_ready.1 hj
   have : j < all.length := by have := (Array.getElem?_eq_some_iff.1 ho).1; simpa using this
   simp at hl
   rw [h1 j (by omega)] at hu; cases hu
 | o :: r, k, listed, fr, M, hd, hl, hc, h1, h2, h => by
  simp only [List.length_cons] at hl ⊢
  have hk : all[k]? = some o := by
   have : (all.drop k)[0]? = some o := by rw [hd]; rfl
   rw [List.getElem?_drop] at this
   simpa using this
  have hB' := hB
  unfold drawB2 at hB'
  rw [Bool.and_eq_true] at hB'
  have hready : k ∈ Region.ready .any all.toArray listed := by
   rw [mem_ready]
   refine ⟨h2 k (Nat.le_refl _) (by omega), o, by simpa using hk, fun e he hb => ?_⟩
   have hlt := edgesB_ok all 0 hB'.1 k o hk e he hb
   have := h1 e.on (by omega)
   have hs : e.on < listed.size := by rw [hc.1]; omega
   simpa [hs] using this
  refine draw_first2 hB hk r.length listed fr M hc h1 hready (stepK_mono h fun f M' hh => ?_)
  refine draw_text2 hB r (k + 1) _ f M' (by rw [← List.drop_drop, hd]; rfl) (by omega) (closed_set hc hready) (fun m hm => ?_) (fun m hm hml => ?_) hh
  ·by_cases e : m = k
   ·subst e
    have hs : m < listed.size := by rw [hc.1]; omega
    simp [hs]
   ·rw [getD_set_ne true (Ne.symm e)]; exact h1 m (by omega)
  ·rw [getD_set_ne true (by omega)]; exact h2 m (by omega) hml
theorem draw_region2 (hT : TOkB P tt = true) (hm : P.follows .mixedOrders = true) (hB : drawB2 tt r ds all = true) {S F : Store} {ρ : Env} {M : Mem} {w : World} {a : Act} {fr : List AV} {id : Nat} {Q : Exit → Act → World → Prop}
  (h : opsK2 P tt r ds all all fr M K) (hM : RepM S F ρ M w) (hF : RepF S ρ a fr) (hQ : ∀ a' w', After S F ρ w K a' w' → Q .normal a' w') : (Code.region id all.toArray true).wp P Q a w := by
 refine wp_region_any hm ?_
 have hA := draw_text2 (P := P) (tt := tt) (K := K) hB all 0 (Array.replicate all.length false) fr M rfl (by simp) ⟨by simp, fun j o hj hl => by
   have := (List.getElem?_eq_some_iff.1 hj).1
   simp [this] at hl⟩ (by simp) (fun m _ hm => by simp [hm]) h
 have := wpAnyA_ok2 hT all.length _ S ρ { w with drawn := w.drawn + 1 } a fr M hA (hM.drawn _) hF (Q := Q) (fun a' w' h' => hQ a' w' (h'.trans (Store.le_refl _) (Env.le_refl _) (Wle.drawn _ _ (Nat.le_succ _))))
 simpa using this
end
def rdyK (all : List Oper) (done : List Nat) : List Nat :=
 (List.range all.length).filter fun i => !(done.any (Nat.beq i)) && (match all[i]? with | some o => o.after.toList.all fun e => !(Region.binds .any e) || (decide (e.on < all.length) && done.any (Nat.beq e.on)) | none => false)
def ordN : List Nat → (Nat → Prop) → Prop
 | [], _ => True
 | i :: l, f => f i ∧ ordN l f
def stO (P : Program) (tt : TT) (d : Option DMode) (all : List Oper) (i : Nat) (fr : List AV) (M : Mem) (K : List AV → Mem → Prop) : Prop :=
 match all[i]? with
 | none => K fr M
 | some o => stepK P tt d all o fr M K
def ordsK (P : Program) (tt : TT) (d : Option DMode) (all : List Oper) (K : List AV → Mem → Prop) : Nat → List Nat → List AV → Mem → Prop
 | 0, done, fr, M => match rdyK all done with
  | [] => K fr M
  | _ :: _ => False
 | n + 1, done, fr, M => match rdyK all done with
  | [] => K fr M
  | i :: l => ordN (i :: l) fun j => stO P tt d all j fr M (ordsK P tt d all K n (j :: done))
theorem ordN_mem {f : Nat → Prop} : ∀ {l : List Nat}, ordN l f → ∀ i ∈ l, f i
 | _ :: _, h, i, hi => by
  rcases List.mem_cons.1 hi with rfl | hi
  ·exact h.1
  ·exact ordN_mem h.2 i hi
section
variable {P : Program} {tt : TT} {all : List Oper} {K : List AV → Mem → Prop} {fr : List AV} {M : Mem}
theorem any_beq {done : List Nat} {i : Nat} : done.any (Nat.beq i) = true ↔ i ∈ done := by
 rw [List.any_eq_true]
 constructor
 ·rintro ⟨x, hx, h⟩; rw [Nat.eq_of_beq_eq_true h]; exact hx
 ·intro h; exact ⟨i, h, by simp⟩
theorem rdyK_iff {listed : Array Bool} {done : List Nat} (hs : listed.size = all.length) (hl : ∀ i, i < all.length → (listed.getD i true = true ↔ i ∈ done)) {i : Nat} : i ∈ rdyK all done ↔ i ∈ Region.ready .any all.toArray listed := by
 have key : ∀ e, listed.getD e false = true ↔ e < all.length ∧ e ∈ done := by
  intro e
  rcases Nat.lt_or_ge e listed.size with h | h
  ·rw [← hs]
   refine ⟨fun h1 => ⟨h, (hl e (by omega)).1 (by simpa [h] using h1)⟩, fun h1 => ?_⟩
   have := (hl e (by omega)).2 h1.2
   simpa [h] using this
  ·refine ⟨fun h1 => ?_, fun h1 => by omega⟩
   simp [Array.getD, Nat.not_lt.2 h] at h1
 rw [mem_ready]
 unfold rdyK
 rw [List.mem_filter]
 constructor
 ·rintro ⟨h1, h2⟩
  have hi := List.mem_range.1 h1
  rw [Bool.and_eq_true, Bool.not_eq_true', Bool.eq_false_iff] at h2
  obtain ⟨h2, h3⟩ := h2
  refine ⟨?_, ?_⟩
  ·rw [Bool.eq_false_iff]
   exact fun h => h2 (any_beq.2 ((hl i hi).1 h))
  ·have ho : all[i]? = some all[i] := List.getElem?_eq_getElem hi
   rw [ho] at h3
   refine ⟨all[i], by simp, fun e he hb => ?_⟩
   have := List.all_eq_true.1 h3 e (by simpa using he)
   rw [hb, Bool.not_true, Bool.false_or, Bool.and_eq_true] at this
   exact (key e.on).2 ⟨by simpa using this.1, any_beq.1 this.2⟩
 ·rintro ⟨hu, o, ho, ha⟩
  have ho' : all[i]? = some o := by simpa using ho
  have hi := (List.getElem?_eq_some_iff.1 ho').1
  refine ⟨List.mem_range.2 hi, ?_⟩
  rw [ho', Bool.and_eq_true]
  constructor
  ·rw [Bool.not_eq_true', Bool.eq_false_iff]
   intro hd
   have := (hl i hi).2 (any_beq.1 hd)
   rw [this] at hu; cases hu
  ·dsimp only
   rw [List.all_eq_true]
   intro e he
   cases hb : Region.binds .any e with
   | false => rfl
   | true =>
    have h1 := (key e.on).1 (ha e (by simpa using he) hb)
    rw [Bool.not_true, Bool.false_or, Bool.and_eq_true]
    exact ⟨by simpa using h1.1, any_beq.2 h1.2⟩
theorem listed_set {listed : Array Bool} {done : List Nat} (hs : listed.size = all.length) (hl : ∀ i, i < all.length → (listed.getD i true = true ↔ i ∈ done)) {j : Nat} (hj : j < all.length) :
  ∀ i, i < all.length → ((listed.setIfInBounds j true).getD i true = true ↔ i ∈ j :: done) := by
 intro i hi
 by_cases e : i = j
 ·subst e
  have : i < listed.size := by omega
  simp [this]
 ·rw [getD_set_ne true (Ne.symm e), hl i hi]
  simp [e]
theorem ready_nil {listed : Array Bool} {done : List Nat} (hs : listed.size = all.length) (hl : ∀ i, i < all.length → (listed.getD i true = true ↔ i ∈ done)) : rdyK all done = [] ↔ Region.ready .any all.toArray listed = [] := by
 rw [List.eq_nil_iff_forall_not_mem, List.eq_nil_iff_forall_not_mem]
 exact ⟨fun h i hi => h i ((rdyK_iff hs hl).2 hi), fun h i hi => h i ((rdyK_iff hs hl).1 hi)⟩
theorem ordsK_wp {d : Option DMode} (hT : TOkB P tt = true) {F : Store} {Q : Exit → Act → World → Prop} : ∀ (n : Nat) (done : List Nat) (listed : Array Bool) (S : Store) (ρ : Env) (w : World) (a : Act) (fr : List AV) (M : Mem), listed.size = all.length → (∀ i, i < all.length → (listed.getD i true = true ↔ i ∈ done)) →
  ordsK P tt d all K n done fr M → RepM S F ρ M w → RepF S ρ a fr → (∀ a' w', After S F ρ w K a' w' → Q .normal a' w') → wpAny P .any all.toArray Q n listed a w
 | 0, done, listed, S, ρ, w, a, fr, M, hs, hl, h, hM, hF, hQ => by
  unfold ordsK at h
  split at h
  ·rename_i h0; exact ⟨(ready_nil hs hl).1 h0, hQ _ _ ⟨fr, M, S, ρ, h, Store.le_refl _, Env.le_refl _, hM, hF, Wle.refl _⟩⟩
  ·exact h.elim
 | n + 1, done, listed, S, ρ, w, a, fr, M, hs, hl, h, hM, hF, hQ => by
  unfold ordsK at h
  split at h
  ·rename_i h0
   have := (ready_nil hs hl).1 h0
   exact ⟨fun _ => hQ _ _ ⟨fr, M, S, ρ, h, Store.le_refl _, Env.le_refl _, hM, hF, Wle.refl _⟩, fun i hi => by rw [this] at hi; cases hi⟩
  ·rename_i i l h0
   rw [← h0] at h
   refine ⟨fun h1 => ?_, fun j hj => ?_⟩
   ·rw [(ready_nil hs hl).2 h1] at h0; cases h0
   have hjr := (rdyK_iff hs hl).2 hj
   have h2 := ordN_mem h j hjr
   have hjl : j < all.length := by
    unfold rdyK at hjr
    exact List.mem_range.1 (List.mem_filter.1 hjr).1
   unfold stO at h2
   unfold wpOp
   obtain ⟨_, o, ho, _⟩ := mem_ready.1 hj
   have ho' : all[j]? = some o := by simpa using ho
   rw [ho'] at h2
   rw [ho]
   simp only at h2 ⊢
   have hk := stepK_ok (Q := Q) hT h2 hM hF
   have next : ∀ a' w', After S F ρ w (ordsK P tt d all K n (j :: done)) a' w' → wpAny P .any all.toArray Q n (listed.setIfInBounds j true) a' w' := by
    rintro a' w' ⟨fr', M', S', ρ', hk, h1, h2, h3, h4, h5⟩
    exact ordsK_wp hT n (j :: done) _ S' ρ' w' a' fr' M' (by simpa using hs) (listed_set hs hl hjl) hk h3 h4 fun a'' w'' h' => hQ _ _ (h'.trans h1 h2 h5)
   split
   ·rename_i hw
    rw [if_pos hw] at hk
    exact .inl (Oper.wp_mono next hk)
   ·rename_i hw
    rw [if_neg hw] at hk
    exact next _ _ hk
theorem draw_regionE {d : Option DMode} (hT : TOkB P tt = true) (hm : P.follows .mixedOrders = true) {S F : Store} {ρ : Env} {w : World} {a : Act} {id : Nat} {Q : Exit → Act → World → Prop}
  (h : ordsK P tt d all K all.length [] fr M) (hM : RepM S F ρ M w) (hF : RepF S ρ a fr) (hQ : ∀ a' w', After S F ρ w K a' w' → Q .normal a' w') : (Code.region id all.toArray true).wp P Q a w := by
 refine wp_region_any hm ?_
 have := ordsK_wp hT all.length [] (Array.replicate all.length false) S ρ { w with drawn := w.drawn + 1 } a fr M (by simp) (fun i hi => by simp [hi]) h (hM.drawn _) hF (Q := Q) (fun a' w' h' => hQ a' w' (h'.trans (Store.le_refl _) (Env.le_refl _) (Wle.drawn _ _ (Nat.le_succ _))))
 simpa using this
end
end Go.Proofs.YtnjggjhkfncnlaaGreatDoor
