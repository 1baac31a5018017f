
/-
  Ranging over a function: contracts of functions that call yield or that range; a round; the statement.
-/
import Derived.Test.YtgbicnldbhfhiaaDoorSymZb
set_option linter.unusedVariables false
set_option linter.unusedSimpArgs false
namespace Go.Proofs.YtgbicnldbhfhiaaDoor

theorem cell_no {S : Store} {k : Nat} {o : Obj} (h : S k = some o) (hc : cellsO o = false) {a : Addr} {v : Value} (hv : S.cell a = some v) : a.block ≠ k := by
  intro e
  unfold Store.cell at hv
  rw [e, h] at hv
  cases o <;> first | (simp [cellsO] at hc; done) | (simp at hv; done)
theorem cell_upd {S : Store} {k : Nat} {o : Option Obj} {a : Addr} (h : a.block ≠ k) : (S.upd k o).cell a = S.cell a := by
  unfold Store.cell
  rw [Store.upd_ne _ _ h]
/-- a mark is come to -/
theorem RepM.unmark {S F : Store} {ρ : Env} {M : Mem} {w : World} {D : Nat} (hM : RepM S F ρ M w) (hD : S D = some (.deferred (some []))) : RepM (S.upd D none) F ρ M (w.putObj D (.deferred none)) := by
  have hF : F D = none := (hM.sf D).resolve_left (by rw [hD]; simp)
  refine hM.swap (fun a v hv => by rw [cell_upd (cell_no hD rfl hv)]; exact hv) (fun k o hk => ?_) (fun k o hk => ?_) (fun b => ?_) (fun k h1 h2 h3 => ?_)
  · by_cases e : k = D
    · subst e; rw [Store.upd_eq] at hk; cases hk
    · rw [Store.upd_ne _ _ e] at hk; rw [World.putObj_heap_other e]; exact hM.sw k o hk
  · have e : k ≠ D := fun e => by rw [e, hF] at hk; cases hk
    rw [World.putObj_heap_other e]; exact hM.fw k o hk
  · by_cases e : b = D
    · subst e; exact .inl (Store.upd_eq _ _ _)
    · rw [Store.upd_ne _ _ e]; exact hM.sf b
  · have e : k ≠ D := fun e => by rw [e, hD] at h1; cases h1
    exact ⟨World.putObj_heap_other e, by rw [Store.upd_ne _ _ e]; exact h1, h2⟩
theorem leaves_marks {P : Program} {fn : Func} {tmps : Array Value} {R : Ending → World → Prop} {N : Nat} {F : Store} {ρ : Env} {M : Mem} : ∀ (Ds : List Nat) (S : Store) (w : World), RepM S F ρ M w → Ds.Nodup → (∀ D ∈ Ds, N ≤ D ∧ S D = some (.deferred (some []))) →
    (∀ S' w', RepM S' F ρ M w' → (∀ k, k < N → S' k = S k) → (∀ a v, S.cell a = some v → S'.cell a = some v) → Wle w w' → ∃ v, (results fn tmps).run P w' = .ok v w' ∧ R (.returned v) w') → LeavesInM Fence.wide 0 P fn tmps R (Ds.map mark) .returning w
  | [], S, w, hM, _, _, h => h S w hM (fun _ _ => rfl) (fun _ _ h => h) (Wle.refl _)
  | D :: Ds, S, w, hM, hn, hD, h => by
    have hd := hD D List.mem_cons_self
    have hw := hM.sw D _ hd.2
    have hnn := List.nodup_cons.1 hn
    refine ⟨by simp, .inl ⟨D, _, rfl, run_takeDeferred hw, ?_⟩⟩
    refine leaves_marks Ds (S.upd D none) _ (hM.unmark hd.2) hnn.2 (fun D' hD' => ⟨(hD D' (List.mem_cons_of_mem _ hD')).1, ?_⟩) (fun S' w' h1 h2 h3 h4 => h S' w' h1 (fun k hk => ?_) (fun a v hv => h3 _ _ ?_) ((wle_put hw rfl rfl).trans h4))
    · rw [Store.upd_ne _ _ (show D' ≠ D from fun e => hnn.1 (e ▸ hD'))]; exact (hD D' (List.mem_cons_of_mem _ hD')).2
    · rw [h2 k hk, Store.upd_ne _ _ (by omega)]
    · rw [cell_upd (cell_no hd.2 rfl hv)]; exact hv

/-! ### contracts of functions that call yield -/
structure SpecY (P : Program) (C : Cond) (D : List Nat) (f : FuncId) (args : List AV) (M : Mem) (R : AV → Mem → Prop) : Prop where
  out : Plain P f ∧ ∀ S F ρ0 ρ vs w, C S F ρ0 → EnvIn ρ0 D → Env.le ρ0 ρ → RepM S F ρ M w → RVs S ρ vs args → Calls P f vs.toArray w (fun e w' => ∃ v u M' S' ρ', e = .returned v ∧ R u M' ∧ S.le S' ∧ Env.le ρ0 ρ' ∧ RepM S' F ρ' M' w' ∧ RV S' ρ' v u ∧ Wle w w')
theorem below_none {S : Store} {w : World} (h : S.inW w) {k : Nat} (hk : w.heap.size ≤ k) : S k = none := by
  cases e : S k with
  | none => rfl
  | some o =>
    have := (Array.getElem?_eq_some_iff.1 (h k o e)).1
    omega
section
variable {P : Program} {tt : TT} {C : Cond} {D : List Nat} {M : Mem}
theorem frame_pad {S : Store} {ρ : Env} {fn : Func} {vs : List Value} {args : List AV} {N : Nat} (hv : RVs S ρ vs args) : RepG N S ρ { tmps := vs.toArray ++ Array.replicate (fn.ntmps - vs.toArray.size) undef, defers := [] } (args ++ List.replicate (fn.ntmps - args.length) (.tup [])) := by
  have hlen := hv.1
  refine ⟨?_, marksOk.nil _ _⟩
  have e : (vs.toArray ++ Array.replicate (fn.ntmps - vs.toArray.size) undef).toList = vs ++ List.replicate (fn.ntmps - args.length) undef := by simp [hlen]
  rw [e]
  refine hv.append ⟨by simp, fun i u hu => ?_⟩
  have hi := (List.getElem?_eq_some_iff.1 hu).1
  simp only [List.length_replicate] at hi
  have hu' : u = .tup [] := by
    rw [List.getElem?_replicate] at hu
    simp [hi] at hu
    exact hu.symm
  subst hu'
  exact ⟨undef, by simp [hi], RV.tup_mk (RVs.nil _ _)⟩
/-- at a function's end: the marks are come to, then the results are handed out -/
theorem core_y (hT : TOkB P tt = true) (hC : ∀ S S' F ρ0, S.le S' → C S F ρ0 → C S' F ρ0) {f : FuncId} {fn : Func} {c : Code} {args : List AV} (hf : P.funcs[f]? = some fn) (hb : fn.body = some c) {Q : APost}
    (h : codeY P tt none C D c (args ++ List.replicate (fn.ntmps - args.length) (.tup [])) M Q) {S F : Store} {ρ0 ρ : Env} {vs : List Value} {w : World} (hc : C S F ρ0) (h0 : EnvIn ρ0 D) (h1 : Env.le ρ0 ρ) (hM : RepM S F ρ M w) (hv : RVs S ρ vs args) {R : Ending → World → Prop}
    (hR : ∀ (x : AEx) fr M' S' ρ' (a' : Act) w', Q x fr M' → S.le S' → Env.le ρ0 ρ' → RepM S' F ρ' M' w' → RVs S' ρ' a'.tmps.toList fr → Wle w w' → (∀ i, x ≠ .exit i) ∧ ∃ v, (results fn a'.tmps).run P w' = .ok v w' ∧ R (.returned v) w') : Calls P f vs.toArray w R := by
  refine callsIn_wide.1 (callsIn_of_wp_marks (F := Fence.wide) (n := 0) hf hb trivial ?_)
  refine wpIn_mono ((codeY_ok (rd := none) hT hC c _ _ _ h).out w.heap.size S F ρ0 ρ _ w (Nat.le_refl _) hc h0 h1 hM (frame_pad hv)) ?_
  rintro e a' w' ⟨x, hx, fr, M', S', ρ', hk, k1, k2, k3, k4, k5⟩
  obtain ⟨ht, Ds, hds, hnd, hD⟩ := k4
  have fin : (∀ i, x ≠ .exit i) ∧ LeavesInM Fence.wide 0 P fn a'.tmps R a'.defers .returning w' := by
    refine ⟨(hR x fr M' S' ρ' a' w' hk k1 k2 k3 ht k5).1, ?_⟩
    rw [hds]
    refine leaves_marks (N := w.heap.size) Ds S' w' k3 hnd hD fun S2 w2 j1 j2 j3 j4 => ?_
    refine (hR x fr M' S2 ρ' a' w2 hk (fun k o hk' => ?_) k2 j1 (ht.monoC j3) (k5.trans j4)).2
    have hlt : k < w.heap.size := (Array.getElem?_eq_some_iff.1 (hM.sw k o hk')).1
    rw [j2 k hlt]
    exact k1 k o hk'
  cases e with
  | normal => exact fin.2
  | ret => exact fin.2
  | exit i => cases hx; exact absurd rfl (fin.1 i)
  | goto l => cases hx
  | panic l => cases hx
  | outgrown => cases hx
theorem SpecY.intro (hT : TOkB P tt = true) (hC : ∀ S S' F ρ0, S.le S' → C S F ρ0 → C S' F ρ0) {f : FuncId} {fn : Func} {c : Code} {args : List AV} {R : AV → Mem → Prop} (hf : P.funcs[f]? = some fn) (hb : fn.body = some c) (hn : (fn.name == "runtime.NumGoroutine") = false)
    (h : padK args (fn.ntmps - args.length) fun fr => codeY P tt none C D c fr M (endK tt fn.results.toList R)) : SpecY P C D f args M R := by
  rw [padK_eq] at h
  refine ⟨plain_of hf hb hn, fun S F ρ0 ρ vs w hc h0 h1 hM hv => ?_⟩
  refine core_y hT hC hf hb h hc h0 h1 hM hv fun x fr M' S' ρ' a' w' hk k1 k2 k3 k4 k5 => ?_
  have fin : resK tt fr M' fn.results.toList (fun us => R (tupOf us) M') → ∃ v, (results fn a'.tmps).run P w' = .ok v w' ∧ (∃ v0 u M1 S1 ρ1, Ending.returned v = .returned v0 ∧ R u M1 ∧ S.le S1 ∧ Env.le ρ0 ρ1 ∧ RepM S1 F ρ1 M1 w' ∧ RV S1 ρ1 v0 u ∧ Wle w w') := by
    intro hk
    obtain ⟨vs', us, hK, hvs, hl, hr⟩ := resK_ok (a := { a' with defers := [] }) hT k3 ⟨k4, rfl⟩ _ _ hk
    exact ⟨_, run_results hr, _, _, M', S', ρ', rfl, hK, k1, k2, k3, tupOf_ok hvs, k5⟩
  cases x with
  | normal => exact ⟨by simp, fin hk⟩
  | ret => exact ⟨by simp, fin hk⟩
  | exit i => exact hk.elim
end
end Go.Proofs.YtgbicnldbhfhiaaDoor
