/-
  Contracts of functions, and how a caller uses them.
-/
import Derived.Test.YtihligeggkpolaaSymL
namespace Go.Proofs.Ytihligeggkpolaa

/-- What a call leaves. -/
def CallPost (S F : Store) (ρ : Env) (w : World) (R : AV → Mem → Prop) (e : Ending) (w' : World) : Prop :=
  ∃ v u M' S' ρ', e = .returned v ∧ R u M' ∧ S.le S' ∧ Env.le ρ ρ' ∧ RepM S' F ρ' M' w' ∧ RV S' ρ' v u ∧ Wle w w'
/-- a function of the program with a body of its own -/
def Plain (P : Program) (f : FuncId) : Prop := ∃ fn, P.funcs[f]? = some fn ∧ (fn.name == "runtime.NumGoroutine") = false ∧ fn.body.isNone = false
/-- A contract: called with values that stand for 'args' in a world that holds M, the function returns and leaves R. -/
structure Spec (P : Program) (f : FuncId) (args : List AV) (M : Mem) (R : AV → Mem → Prop) : Prop where
  out : Plain P f ∧ ∀ S F ρ vs w, RepM S F ρ M w → RVs S ρ vs args → Calls P f vs.toArray w (CallPost S F ρ w R)
theorem Spec_iff {P : Program} {f : FuncId} {args : List AV} {M : Mem} {R : AV → Mem → Prop} : Spec P f args M R ↔ (Plain P f ∧ ∀ S F ρ vs w, RepM S F ρ M w → RVs S ρ vs args → Calls P f vs.toArray w (CallPost S F ρ w R)) := ⟨fun h => h.out, fun h => ⟨h⟩⟩

/-- What a call that owes nothing to labels leaves. -/
def PurePost (S F : Store) (w : World) (R : AV → Prop) (e : Ending) (w' : World) : Prop :=
  ∃ v u S', e = .returned v ∧ R u ∧ S.le S' ∧ S'.inW w' ∧ F.inW w' ∧ (∀ b, S' b = none ∨ F b = none) ∧ RP S' v u ∧ Wle w w'
structure PSpec (P : Program) (f : FuncId) (args : List AV) (R : AV → Prop) : Prop where
  out : Plain P f ∧ ∀ S F vs w, S.inW w → F.inW w → (∀ b, S b = none ∨ F b = none) → RPs S vs args → Calls P f vs.toArray w (PurePost S F w R)
theorem PSpec_iff {P : Program} {f : FuncId} {args : List AV} {R : AV → Prop} : PSpec P f args R ↔ (Plain P f ∧ ∀ S F vs w, S.inW w → F.inW w → (∀ b, S b = none ∨ F b = none) → RPs S vs args → Calls P f vs.toArray w (PurePost S F w R)) := ⟨fun h => h.out, fun h => ⟨h⟩⟩

/-- a value without labels, to a depth -/
def persN : Nat → AV → Bool
  | 0, _ => false
  | n + 1, .agg cs => cs.all (persN n)
  | n + 1, .tup cs => cs.all (persN n)
  | n + 1, .fn _ cs => cs.all (persN n)
  | _ + 1, .ptr _ _ => false
  | _ + 1, .row _ _ _ => false
  | _ + 1, .rel _ _ _ => false
  | _ + 1, _ => true

section
variable {S F : Store} {ρ : Env} {M : Mem} {w : World} {P : Program}

theorem persN_ok : ∀ (n : Nat) {u : AV} {v : Value}, persN n u = true → RV S ρ v u → RP S v u := by
  intro n
  induction n with
  | zero => intro u v h; simp [persN] at h
  | succ n ih =>
    intro u v h hv
    have hl : ∀ {cs : List AV} {vs : Array Value}, cs.all (persN n) = true → RVs S ρ vs.toList cs → vs.size = cs.length ∧ ∃ vals : Nat → Value, (∀ i, i < vs.size → vs[i]? = some (vals i)) ∧ ∀ (j : Nat) u, cs[j]? = some u → RP S (vals j) u := by
      intro cs vs ha hr
      have hs := hr.1
      simp only [Array.length_toList] at hs
      refine ⟨hs, fun i => vs.getD i undef, fun i hi => by simp [hi], fun j x hx => ?_⟩
      obtain ⟨y, hy, hyr⟩ := hr.2 j x hx
      have : vs.getD j undef = y := by
        have hy' : vs[j]? = some y := by simpa using hy
        simp [hy']
      show RP S (vs.getD j undef) x
      rw [this]
      exact ih (List.all_eq_true.1 ha x (List.mem_of_getElem? hx)) hyr
    cases u with
    | agg cs =>
      obtain ⟨vs, rfl, hr⟩ := hv.agg_inv
      obtain ⟨hs, vals, he, hvv⟩ := hl h hr
      exact .agg cs vs hs vals he hvv
    | tup cs =>
      obtain ⟨vs, rfl, hr⟩ := hv.tup_inv
      obtain ⟨hs, vals, he, hvv⟩ := hl h hr
      exact .tup cs vs hs vals he hvv
    | fn f cs =>
      obtain ⟨vs, rfl, hr⟩ := hv.fn_inv
      obtain ⟨hs, vals, he, hvv⟩ := hl h hr
      exact .fn f cs vs hs vals he hvv
    | ptr _ _ => simp [persN] at h
    | row _ _ _ => simp [persN] at h
    | rel _ _ _ => simp [persN] at h
    | top => exact .top _
    | int k n => rw [hv.int_inv]; exact .int _ _
    | bool b => rw [hv.bool_inv]; exact .bool _
    | str s => rw [hv.str_inv]; exact .str _
    | nilsl => rw [hv.nilsl_inv]; exact .nilsl
    | val x => rw [hv.val_inv]; exact .val _
    | sl d enc l => exact hv.sl_inv
    | pd c => exact hv.pd_inv
theorem persN_all {n : Nat} {us : List AV} {vs : List Value} (h : us.all (persN n) = true) (hv : RVs S ρ vs us) : RPs S vs us :=
  ⟨hv.1, fun i u hu => let ⟨v, e, hr⟩ := hv.2 i u hu; ⟨v, e, persN_ok n (List.all_eq_true.1 h u (List.mem_of_getElem? hu)) hr⟩⟩

/-- the blocks that a caller keeps for itself while it calls -/
noncomputable def keepF (F : Store) (ρ : Env) (M : Mem) (w : World) (own : Nat → Prop) : Store := fun k =>
  open Classical in if (∃ ℓ B b, M ℓ = some B ∧ ρ ℓ = some b ∧ B.live b ∧ b.blk = k ∧ ¬ own ℓ) then w.heap[k]? else F k

theorem keepF_live {own : Nat → Prop} {ℓ : Nat} {B : Blk} {b : Lab} (h1 : M ℓ = some B) (h2 : ρ ℓ = some b) (h3 : B.live b) (h4 : ¬ own ℓ) : keepF F ρ M w own b.blk = w.heap[b.blk]? := by
  unfold keepF; rw [if_pos ⟨ℓ, B, b, h1, h2, h3, rfl, h4⟩]
theorem keepF_le {own : Nat → Prop} (hM : RepM S F ρ M w) : Store.le F (keepF F ρ M w own) := by
  intro k o hk
  unfold keepF
  split
  · exact hM.fw k o hk
  · exact hk
theorem keepF_inW {own : Nat → Prop} (hM : RepM S F ρ M w) : (keepF F ρ M w own).inW w := by
  intro k o hk
  unfold keepF at hk
  split at hk
  · exact hk
  · exact hM.fw k o hk
theorem keepF_sf {own : Nat → Prop} (hM : RepM S F ρ M w) (k : Nat) : S k = none ∨ keepF F ρ M w own k = none := by
  unfold keepF
  split
  · rename_i h
    obtain ⟨ℓ, B, b, h1, h2, h3, rfl, _⟩ := h
    obtain ⟨b', hb', hr⟩ := hM.blk _ _ h1
    rw [h2] at hb'; cases hb'
    exact .inl (hr.off h3).1
  · exact hM.sf k

/-- behind a call that keeps F and what the caller kept, the caller's blocks are as they were -/
theorem RepM.behind {S' : Store} {w' : World} (hM : RepM S F ρ M w) (hle : S.le S') (hs : S'.inW w') (hf : (keepF F ρ M w (fun _ => False)).inW w') (hd : ∀ b, S' b = none ∨ keepF F ρ M w (fun _ => False) b = none) : RepM S' F ρ M w' := by
  refine ⟨hs, fun k o hk => hf k o (keepF_le hM k o hk), fun k => ?_, hM.dom, fun ℓ B hB => ?_, hM.inj⟩
  · rcases hd k with h | h
    · exact .inl h
    · right
      cases hk : F k with
      | none => rfl
      | some o => rw [keepF_le hM k o hk] at h; cases h
  · obtain ⟨b, hb, hr⟩ := hM.blk _ _ hB
    refine ⟨b, hb, hr.keep hle (Env.le_refl _) fun hl => ?_⟩
    have hk := keepF_live (F := F) (w := w) (own := fun _ => False) hB hb hl (fun h => h)
    have hlt := hr.lt hl
    obtain ⟨o, ho⟩ : ∃ o, w.heap[b.blk]? = some o := ⟨_, Array.getElem?_eq_getElem hlt⟩
    refine ⟨by rw [hf b.blk o (hk.trans ho), ho], ?_⟩
    rw [(hr.off hl).1]
    rcases hd b.blk with h | h
    · exact h
    · rw [hk, ho] at h; cases h

/-- a contract without labels, used by a caller that has its own -/
theorem Spec.of_pure {f : FuncId} {args : List AV} {R : AV → Prop} {K : AV → Mem → Prop} {n : Nat} (h : PSpec P f args R) (hp : args.all (persN n) = true) (hk : ∀ u, R u → K u M) : Spec P f args M K := by
  rw [Spec_iff]
  rw [PSpec_iff] at h
  refine ⟨h.1, ?_⟩
  intro S F ρ vs w hM hv
  refine (h.2 S (keepF F ρ M w (fun _ => False)) vs w hM.sw (keepF_inW hM) (keepF_sf hM) (persN_all hp hv)).mono ?_
  rintro e w' ⟨v, u, S', rfl, hR, hle, hs, hf, hd, hr, hw⟩
  exact ⟨v, u, M, S', ρ, rfl, hk u hR, hle, Env.le_refl _, hM.behind hle hs hf hd, .p hr, hw⟩

theorem PSpec.of_spec {f : FuncId} {args : List AV} {R : AV → Prop} (n : Nat) (h : Spec P f args Mem.none (fun u _ => R u ∧ persN n u = true)) : PSpec P f args R := by
  rw [PSpec_iff]
  rw [Spec_iff] at h
  refine ⟨h.1, ?_⟩
  intro S F vs w hs hf hd hv
  refine (h.2 S F (fun _ => none) vs w ⟨hs, hf, hd, by simp, by simp [Mem.none], by simp⟩ (hv.rv _)).mono ?_
  rintro e w' ⟨v, u, M', S', ρ', rfl, ⟨hR, hp⟩, hle, _, hM', hr, hw⟩
  exact ⟨v, u, S', rfl, hR, hle, hM'.sw, hM'.fw, hM'.sf, persN_ok n hp hr, hw⟩

theorem Spec.mono {f : FuncId} {args : List AV} {R R' : AV → Mem → Prop} (h : Spec P f args M R) (hr : ∀ u M, R u M → R' u M) : Spec P f args M R' := by
  simp only [Spec_iff] at *
  refine ⟨h.1, ?_⟩
  intro S F ρ vs w hM hv
  exact (h.2 S F ρ vs w hM hv).mono fun e w' ⟨v, u, M', S', ρ', a, b, c⟩ => ⟨v, u, M', S', ρ', a, hr _ _ b, c⟩
theorem PSpec.mono {f : FuncId} {args : List AV} {R R' : AV → Prop} (h : PSpec P f args R) (hr : ∀ u, R u → R' u) : PSpec P f args R' := by
  simp only [PSpec_iff] at *
  refine ⟨h.1, ?_⟩
  intro S F vs w h1 h2 h3 hv
  exact (h.2 S F vs w h1 h2 h3 hv).mono fun e w' ⟨v, u, S', a, b, c⟩ => ⟨v, u, S', a, hr _ b, c⟩

/-- the arguments may be told with less: a row that is known for good as a slice, anything as anything -/
theorem Spec.weaken {f : FuncId} {args args' : List AV} {R : AV → Mem → Prop} (h : Spec P f args' M R)
    (hw : ∀ S F ρ vs w, RepM S F ρ M w → RVs S ρ vs args → RVs S ρ vs args') : Spec P f args M R := by
  simp only [Spec_iff] at *
  refine ⟨h.1, ?_⟩
  intro S F ρ vs w hM hv
  exact h.2 S F ρ vs w hM (hw S F ρ vs w hM hv)
/-- a row among the arguments becomes known for good before the call -/
theorem Spec.leak {f : FuncId} {args : List AV} {R : AV → Mem → Prop} {ℓ : Nat} {t : TypeId} {α : Type} {d : α} {enc : α → List AV} {l : List α} (hl : M ℓ = some (.row t d enc l))
    (h : Spec P f args (M.set ℓ (.gone d enc l)) R) : Spec P f args M R := by
  simp only [Spec_iff] at *
  refine ⟨h.1, ?_⟩
  intro S F ρ vs w hM hv
  obtain ⟨S', b, hle, hb, hM', _⟩ := hM.leak hl
  refine (h.2 S' F ρ vs w hM' (hv.mono hle (Env.le_refl _))).mono ?_
  rintro e w' ⟨v, u, M', S'', ρ', a, b, c, r⟩
  exact ⟨v, u, M', S'', ρ', a, b, Store.le_trans hle c, r⟩
end

end Go.Proofs.Ytihligeggkpolaa
