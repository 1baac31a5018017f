
/-
  Ranging over a function: operations and code in a frame that may be a round's and may bear a mark among its deferred calls; a call of yield.
-/
import Derived.Test.YtgbicnldbhfhiaaDoorG4
import Derived.RangeFuncIn
import Derived.RangeFuncLeaves
import Derived.RangeFuncRecord
import Derived.TacticsIn
set_option linter.unusedVariables false
set_option linter.unusedSimpArgs false
namespace Go.Proofs.YtgbicnldbhfhiaaDoor

/-- the fence that lets all in, in a round or not -/
def wideR (r : Option Nat) : Fence := { Fence.wide with round := r }
theorem callsIn_wideR {r : Option Nat} {n : Nat} {P : Program} {f : FuncId} {args : Array Value} {w : World} {R : Ending → World → Prop} (h : Calls P f args w R) : CallsIn (wideR r) n P f args w R :=
  (callsIn_wide (n := n)).2 h
theorem wp_in {P : Program} {o : Oper} {a : Act} {w : World} {next : Act → World → Prop} {Q : Exit → Act → World → Prop} {r : Option Nat} (hd : ∀ c, o.op ≠ .defer c) (h : o.wp P a w next Q) : o.wpIn (wideR r) 0 P a w next Q := by
  refine ⟨fun _ _ => trivial, ?_⟩
  rw [Oper.semAt_eq _ _ _ hd]
  unfold Oper.wp at h
  generalize (execOp a.eval o).run P w = res at h
  cases res with
  | ok n w' =>
    cases n with
    | enter f args => exact ⟨fun hh => (by cases hh), callsIn_wideR h⟩
    | row row args =>
      refine ⟨fun hh => (by cases hh), fun c cs _ => ?_⟩
      obtain ⟨v, w'', hr, hs⟩ := h c cs
      exact ⟨v, w'', hr, stepsIn_wide.2 hs⟩
    | _ => first | exact h | exact h.elim
  | halt x w' =>
    cases x <;> first | exact h | exact h.elim
theorem wp_defers {P : Program} {o : Oper} {a : Act} {w : World} {next next' : Act → World → Prop} {Q' : Exit → Act → World → Prop} (h : o.wp P { a with defers := [] } w next (fun _ _ _ => False)) (hz : ∀ a' w', next a' w' → a'.defers = []) (hn : ∀ a' w', next a' w' → next' { a' with defers := a.defers } w') : o.wp P a w next' Q' := by
  have he : ({ a with defers := [] } : Act).eval = a.eval := by funext x; cases x <;> rfl
  have hp : ∀ v, ({ ({ a with defers := [] } : Act).put o.dst v with defers := a.defers } : Act) = a.put o.dst v := by
    intro v; cases o.dst <;> rfl
  unfold Oper.wp at h ⊢
  rw [he] at h
  generalize (execOp a.eval o).run P w = res at h
  cases res with
  | ok n w' =>
    cases n with
    | value v => have := hn _ _ h; rw [hp] at this; exact this
    | skip => have := hn _ _ h; rw [hp] at this; exact this
    | defer d =>
      have := hz _ _ h
      cases hdst : o.dst with
      | none => rw [hdst] at this; cases this
      | some t => rw [hdst] at this; cases this
    | enter f args =>
      refine Calls.mono h ?_
      intro e w'' hh
      cases e with
      | returned v => have := hn _ _ hh; rw [hp] at this; exact this
      | panicked ch => exact hh.elim
      | outgrown => obtain ⟨_, _, hf⟩ := hh; exact hf.elim
    | row row args =>
      intro c cs
      obtain ⟨v, w'', hr, hs⟩ := h c cs
      have := hn _ _ hr; rw [hp] at this
      exact ⟨v, w'', this, hs⟩
    | _ => exact h.elim
  | halt x w' =>
    cases x <;> exact h.elim

/-- marks of loops that are over, each with its block, laid behind N; the blocks hold no calls -/
def mark (D : Nat) : Deferred := { target := .collected D, args := #[] }
def marksOk (N : Nat) (S : Store) (ds : List Deferred) : Prop := ∃ Ds : List Nat, ds = Ds.map mark ∧ Ds.Nodup ∧ ∀ D ∈ Ds, N ≤ D ∧ S D = some (.deferred (some []))
theorem marksOk.nil (N : Nat) (S : Store) : marksOk N S [] := ⟨[], rfl, List.nodup_nil, by simp⟩
theorem marksOk.mono {N : Nat} {S S' : Store} {ds : List Deferred} (h : marksOk N S ds) (hle : S.le S') : marksOk N S' ds := by
  obtain ⟨Ds, h1, h2, h3⟩ := h
  exact ⟨Ds, h1, h2, fun D hD => ⟨(h3 D hD).1, hle _ _ (h3 D hD).2⟩⟩
def RepG (N : Nat) (S : Store) (ρ : Env) (a : Act) (fr : List AV) : Prop := RVs S ρ a.tmps.toList fr ∧ marksOk N S a.defers
def AfterG (N : Nat) (S F : Store) (ρ : Env) (w : World) (K : List AV → Mem → Prop) (a : Act) (w' : World) : Prop :=
  ∃ fr M' S' ρ', K fr M' ∧ S.le S' ∧ Env.le ρ ρ' ∧ RepM S' F ρ' M' w' ∧ RepG N S' ρ' a fr ∧ Wle w w'
theorem AfterG.trans {N : Nat} {S S' F : Store} {ρ ρ' : Env} {w w' w'' : World} {K : List AV → Mem → Prop} {a : Act} (h : AfterG N S' F ρ' w' K a w'') (hS : S.le S') (hρ : Env.le ρ ρ') (hw : Wle w w') : AfterG N S F ρ w K a w'' := by
  obtain ⟨fr, M', S2, ρ2, hk, h1, h2, h3, h4, h5⟩ := h
  exact ⟨fr, M', S2, ρ2, hk, Store.le_trans hS h1, Env.le_trans hρ h2, h3, h4, hw.trans h5⟩
theorem AfterG.mono {N : Nat} {S F : Store} {ρ : Env} {w w' : World} {K K' : List AV → Mem → Prop} {a : Act} (h : AfterG N S F ρ w K a w') (hk : ∀ fr M, K fr M → K' fr M) : AfterG N S F ρ w K' a w' := by
  obtain ⟨fr, M', S2, ρ2, h0, h⟩ := h
  exact ⟨fr, M', S2, ρ2, hk _ _ h0, h⟩
theorem RepG.f {N : Nat} {S : Store} {ρ : Env} {a : Act} {fr : List AV} (h : RepG N S ρ a fr) : RepF S ρ { a with defers := [] } fr := ⟨h.1, rfl⟩
theorem RepF.g {S : Store} {ρ : Env} {a : Act} {fr : List AV} (h : RepF S ρ a fr) {N : Nat} {ds : List Deferred} (hd : marksOk N S ds) : RepG N S ρ { a with defers := ds } fr := ⟨h.1, hd⟩

/-- what a walk leans on beside memory: told of what is known for good, of what others keep, and of where the kept labels lie -/
abbrev Cond := Store → Store → Env → Prop
/-- a call of yield, by the round that it leads to -/
structure YS (P : Program) (C : Cond) (D : List Nat) (v : Value) (args : List AV) (M : Mem) (K : AV → Mem → Prop) : Prop where
  out : ∀ S F ρ0 ρ vs w, C S F ρ0 → EnvIn ρ0 D → Env.le ρ0 ρ → RepM S F ρ M w → RPs S vs args → ∃ l fn tmps asg bdy, v = .func (.yield l) #[] #[] ∧ (Instr.yield l vs.toArray).run P w = .ok (.round l fn tmps asg bdy) w ∧
    RoundIn Fence.wide 0 P l fn tmps asg bdy w (fun e w' => ∃ v' u M' S' ρ', e = .returned v' ∧ K u M' ∧ S.le S' ∧ Env.le ρ0 ρ' ∧ RepM S' F ρ' M' w' ∧ RP S' v' u ∧ Wle w w')
structure YC (P : Program) (C : Cond) (D : List Nat) (v : Value) (args : List AV) (fr : List AV) (M : Mem) (K : List AV → AV → Mem → Prop) : Prop where
  out : ∃ fr1 L1, Sub D fr M fr1 (Mem.ofL L1) ∧ fr1.all (persN 5) = true ∧ args.all (persN 5) = true ∧ YS P C D v args (Mem.ofL L1) (K fr1)
def yOp (o : Oper) (fr : List AV) : Option (Value × List Operand) :=
  match o.op with
  | .call c => match c.callee with
    | .value (.tmp t) => match fr.getD t .top with
      | .val v => some (v, c.args.toList)
      | _ => none
    | _ => none
  | _ => none
def isDefer : Op → Bool
  | .defer _ => true
  | _ => false
def opsY (P : Program) (tt : TT) (C : Cond) (D : List Nat) (all : List Oper) : List Oper → List AV → Mem → (List AV → Mem → Prop) → Prop
  | [], fr, M, K => K fr M
  | o :: r, fr, M, K => match yOp o fr with
    | none => match isDefer o.op with
      | true => False
      | false => stepK P tt none all o fr M fun fr' M' => opsY P tt C D all r fr' M' K
    | some (v, xs) => guardK all fr o.guard (avsK fr xs fun us => YC P C D v us fr M fun fr1 u M' => putD fr1 o.dst u fun fr' => opsY P tt C D all r fr' M' K) (putD fr o.dst (.tup []) fun fr' => opsY P tt C D all r fr' M K)

section
variable {S F : Store} {ρ ρ0 : Env} {M : Mem} {w : World} {P : Program} {tt : TT} {C : Cond} {D : List Nat}
theorem put_defers (a : Act) (d : Option Tmp) (v : Value) : ({ ({ a with defers := [] } : Act).put d v with defers := a.defers } : Act) = a.put d v := by cases d <;> rfl
theorem opsY_ok {N : Nat} (hT : TOkB P tt = true) (hC : ∀ S S' F ρ0, S.le S' → C S F ρ0 → C S' F ρ0) (h0 : EnvIn ρ0 D) {all : List Oper} {K : List AV → Mem → Prop} {Q : Exit → Act → World → Prop} {rd : Option Nat} : ∀ (l : List Oper) (S : Store) (ρ : Env) (w : World) (a : Act) (fr : List AV) (M : Mem), opsY P tt C D all l fr M K → C S F ρ0 → Env.le ρ0 ρ → RepM S F ρ M w → RepG N S ρ a fr →
    (∀ a' w', AfterG N S F ρ0 w K a' w' → Q .normal a' w') → wpListIn (wideR rd) 0 P all.toArray Q l a w
  | [], S, ρ, w, a, fr, M, h, _, hρ, hM, hF, hQ => hQ _ _ ⟨fr, M, S, ρ, h, Store.le_refl _, hρ, hM, hF, Wle.refl _⟩
  | o :: r, S, ρ, w, a, fr, M, h, hc, hρ, hM, hF, hQ => by
    unfold wpListIn
    unfold opsY at h
    cases hy : yOp o fr with
    | none =>
      rw [hy] at h
      simp only at h
      cases hdf : isDefer o.op with
      | true => rw [hdf] at h; exact h.elim
      | false =>
        rw [hdf] at h
        simp only at h
        have hd : ∀ c, o.op ≠ .defer c := fun c e => by rw [e] at hdf; cases hdf
        have hs := stepK_ok (Q := fun _ _ _ => False) hT h hM hF.f
        have next : ∀ a' w', After S F ρ w (fun fr' M' => opsY P tt C D all r fr' M' K) a' w' → wpListIn (wideR rd) 0 P all.toArray Q r { a' with defers := a.defers } w' := by
          rintro a' w' ⟨fr', M', S', ρ', hk, h1, h2, h3, h4, h5⟩
          exact opsY_ok hT hC h0 r S' ρ' w' _ fr' M' hk (hC _ _ _ _ h1 hc) (Env.le_trans hρ h2) h3 (h4.g (hF.2.mono h1)) fun a'' w'' h' => hQ _ _ (h'.trans h1 (Env.le_refl _) h5)
        split
        · rename_i hw
          rw [if_pos hw] at hs
          exact wp_in hd (wp_defers hs (fun a' w' ⟨_, _, _, _, _, _, _, _, h4, _⟩ => h4.2) next)
        · rename_i hw
          rw [if_neg hw] at hs
          refine ⟨fun _ _ => trivial, ?_⟩
          have := next _ _ hs
          rw [put_defers] at this
          exact this
    | some q =>
      obtain ⟨v, xs⟩ := q
      rw [hy] at h
      simp only at h
      have hg := guardK_ok h hF.f
      split
      · rename_i hw
        rw [if_pos hw, avsK_eq] at hg
        obtain ⟨fr1, L1, hsub, hp, hpa, hys⟩ := hg.out
        rw [Sub_iff] at hsub
        obtain ⟨S1, ρ1, k1, k2, k3, k4⟩ := hsub S F ρ0 ρ _ w h0 hρ hM hF.f
        have hargs : RPs S ((xs.map a.eval)) (xs.map (avOf fr)) := persN_all hpa (hF.f.evals xs)
        obtain ⟨l, fn, tmps, asg, bdy, hv, hrun, hround⟩ := hys.out S1 F ρ0 ρ1 _ w (hC _ _ _ _ k1 hc) h0 k2 k3 (hargs.mono k1)
        have hop : ∃ t c, o.op = .call c ∧ c.callee = .value (.tmp t) ∧ fr.getD t .top = .val v ∧ xs = c.args.toList := by
          unfold yOp at hy
          split at hy
          · rename_i c ho
            split at hy
            · rename_i t ht
              split at hy
              · rename_i v' hv'
                injection hy with e
                injection e with e1 e2
                subst e1; subst e2
                exact ⟨t, c, ho, ht, hv', rfl⟩
              · cases hy
            · cases hy
          · cases hy
        obtain ⟨t, c, ho, hcal, hval, rfl⟩ := hop
        have hev : a.eval (.tmp t) = v := by
          have := hF.f.eval (.tmp t)
          simp only [avOf, hval] at this
          exact this.val_inv
        have hexec : (execOp a.eval o).run P w = .ok (.round l fn tmps asg bdy) w := by
          have e1 : (c.args.toList.map a.eval).toArray = c.args.map a.eval := by apply Array.ext'; simp
          rw [e1] at hrun
          unfold execOp
          rw [ho]
          simp only [resolve, hcal, hev, hv, Deferred.ofValue, Sem.run_bind, Sem.run_pure, Result.andThen_ok, invoke, Array.empty_append, hrun]
        have hd : ∀ c, o.op ≠ .defer c := fun c e => by rw [ho] at e; cases e
        refine ⟨fun _ _ => trivial, ?_⟩
        rw [Oper.semAt_eq _ _ _ hd, hexec]
        refine ⟨fun hh => (by cases hh), ?_⟩
        have hround' : RoundIn (wideR rd) (0 - 1) P l fn tmps asg bdy w (fun e w' => ∃ v' u M' S' ρ', e = .returned v' ∧ (putD fr1 o.dst u fun fr' => opsY P tt C D all r fr' M' K) ∧ S1.le S' ∧ Env.le ρ0 ρ' ∧ RepM S' F ρ' M' w' ∧ RP S' v' u ∧ Wle w w') := hround
        refine hround'.mono ?_
        rintro e w' ⟨v', u, M', S', ρ', rfl, hk, j1, j2, j3, j4, j5⟩
        simp only
        rw [putD_eq] at hk
        have hfr : RPs S1 a.tmps.toList fr1 := persN_all hp k4.1
        have hF' : RepG N S' ρ' (a.put o.dst v') (setD fr1 o.dst u) := by
          have h1 : RepF S' ρ' { a with defers := [] } fr1 := ⟨(hfr.mono j1).rv ρ', rfl⟩
          have h2 := (h1.put o.dst (.p j4)).g (hF.2.mono (Store.le_trans k1 j1))
          rw [put_defers] at h2
          exact h2
        exact opsY_ok hT hC h0 r S' ρ' w' _ _ M' hk (hC _ _ _ _ (Store.le_trans k1 j1) hc) j2 j3 hF' fun a'' w'' h' => hQ _ _ (h'.trans (Store.le_trans k1 j1) (Env.le_refl _) j5)
      · rename_i hw
        rw [if_neg hw, putD_eq] at hg
        refine ⟨fun _ _ => trivial, ?_⟩
        have h2 := (hF.f.put o.dst (v := undef) (u := .tup []) (RV.tup_mk (RVs.nil _ _))).g hF.2
        rw [put_defers] at h2
        exact opsY_ok hT hC h0 r S ρ w _ _ M hg hc hρ hM h2 hQ
end
end Go.Proofs.YtgbicnldbhfhiaaDoor
