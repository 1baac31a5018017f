
/-
  Ranging over a function: a function that ranges; a round; the statement.
-/
import Derived.Test.YtgbicnldbhfhiaaDoorSymZc
set_option linter.unusedVariables false
set_option linter.unusedSimpArgs false
namespace Go.Proofs.YtgbicnldbhfhiaaDoor

def anyC : Cond := fun _ _ _ => True
theorem anyC_mono : ∀ S S' F ρ0, Store.le S S' → anyC S F ρ0 → anyC S' F ρ0 := fun _ _ _ _ _ _ => trivial
section
variable {P : Program} {tt : TT}
theorem PSpec.introY (hT : TOkB P tt = true) {f : FuncId} {fn : Func} {c : Code} {args : List AV} {R : AV → Prop} (hf : P.funcs[f]? = some fn) (hb : fn.body = some c) (hn : (fn.name == "runtime.NumGoroutine") = false)
    (h : padK args (fn.ntmps - args.length) fun fr => codeY P tt none anyC [] c fr Mem.none (endP tt fn.results.toList R)) : PSpec P f args R := by
  rw [padK_eq] at h
  rw [PSpec_iff]
  refine ⟨plain_of hf hb hn, fun S F vs w hg hs hfr hd hv => ?_⟩
  refine core_y (ρ0 := fun _ => none) (ρ := fun _ => none) hT anyC_mono hf hb h trivial (fun ℓ b hb => by cases hb) (Env.le_refl _) ⟨hs, hfr, hd, by simp, by simp [Mem.none], by simp, hg⟩ (hv.rv _) fun x fr M' S' ρ' a' w' hk k1 k2 k3 k4 k5 => ?_
  have fin : (resK tt fr M' fn.results.toList fun us => leakR us M' fun us' _ => R (tupOf us') ∧ persN 5 (tupOf us') = true) → ∃ v, (results fn a'.tmps).run P w' = .ok v w' ∧ PurePost S F w R (.returned v) w' := by
    intro hk
    obtain ⟨vs', us, hK, hvs, hl, hr⟩ := resK_ok (a := { a' with defers := [] }) hT k3 ⟨k4, rfl⟩ _ _ hk
    obtain ⟨us', M2, S2, ⟨hR, hp⟩, hle, hvs2, hM2⟩ := leakR_ok _ _ _ _ _ hK hvs k3
    exact ⟨_, run_results hr, _, _, S2, rfl, hR, Store.le_trans k1 hle, hM2.sw, hM2.fw, hM2.sf, persN_ok 5 hp (tupOf_ok hvs2), k5⟩
  cases x with
  | normal => exact ⟨by simp, fin hk⟩
  | ret => exact ⟨by simp, fin hk⟩
  | exit i => exact hk.elim
end

/-- the record of a loop: others keep it; its temporaries stand for fr -/
def recC (l : Nat) (r : Loop) (fr : List AV) : Cond := fun S F ρ0 => F l = some (.loop r) ∧ RVs S ρ0 r.tmps.toList fr
theorem recC_mono (l : Nat) (r : Loop) (fr : List AV) : ∀ S S' F ρ0, Store.le S S' → recC l r fr S F ρ0 → recC l r fr S' F ρ0 := fun _ _ _ _ h ⟨h1, h2⟩ => ⟨h1, h2.mono h (Env.le_refl _)⟩
/-- a block of others that is no cells is turned -/
theorem RepM.turnF {S F : Store} {ρ : Env} {M : Mem} {w : World} {l : Nat} {o : Obj} (hM : RepM S F ρ M w) (hl : F l = some o) (o' : Obj) : RepM S (F.upd l (some o')) ρ M (w.putObj l o') := by
  have hS : S l = none := (hM.sf l).resolve_right (by rw [hl]; simp)
  have hlt : l < w.heap.size := (Array.getElem?_eq_some_iff.1 (hM.fw l o hl)).1
  refine hM.swap (fun a v hv => hv) (fun k x hk => ?_) (fun k x hk => ?_) (fun b => ?_) (fun k h1 h2 h3 => ?_)
  · have e : k ≠ l := fun e => by rw [e, hS] at hk; cases hk
    rw [World.putObj_heap_other e]; exact hM.sw k x hk
  · by_cases e : k = l
    · subst e; rw [Store.upd_eq] at hk; rw [World.putObj_heap_same hlt]; exact hk
    · rw [Store.upd_ne _ _ e] at hk; rw [World.putObj_heap_other e]; exact hM.fw k x hk
  · by_cases e : b = l
    · subst e; exact .inl hS
    · rw [Store.upd_ne _ _ e]; exact hM.sf b
  · have e : k ≠ l := fun e => by rw [e, hl] at h2; cases h2
    exact ⟨World.putObj_heap_other e, h1, by rw [Store.upd_ne _ _ e]; exact h2⟩
theorem Store.upd_back {F : Store} {l : Nat} {o : Obj} (h : F l = some o) (o' : Obj) : (F.upd l (some o')).upd l (some o) = F := by
  funext k
  by_cases e : k = l
  · subst e; rw [Store.upd_eq, h]
  · rw [Store.upd_ne _ _ e, Store.upd_ne _ _ e]
section
variable {P : Program} {tt : TT} {D : List Nat} {M : Mem}
/-- one round whose body falls off its end -/
theorem YS.round (hT : TOkB P tt = true) {l : Nat} {r : Loop} {fr : List AV} {t : Tmp} {u : AV} {K : AV → Mem → Prop} (hr1 : r.state = .ready) (hr2 : r.pending = none) (hr3 : r.params = #[t]) {asg bdy : Code} (hr4 : r.assign = asg) (hr5 : r.body = bdy)
    (h : putK fr t u fun fr1 => codeY P tt (some l) anyC D asg fr1 M fun e fr2 M2 => match e with
      | .normal => codeY P tt (some l) anyC D bdy fr2 M2 fun e _ M3 => match e with
        | .normal => ∃ L, Sub D [] M3 [] (Mem.ofL L) ∧ K (.bool true) (Mem.ofL L)
        | _ => False
      | _ => False) : YS P (recC l r fr) D (.func (.yield l) #[] #[]) [u] M K := by
  subst hr4; subst hr5
  rw [putK_eq] at h
  refine ⟨fun S F ρ0 ρ vs w ⟨hl, hfr⟩ h0 h1 hM hv => ?_⟩
  obtain ⟨v, vs', rfl, hv1, hv2⟩ := hv.cons_inv
  have hvs' : vs' = [] := by have := hv2.1; simpa using this
  subst hvs'
  have hw := hM.fw l _ hl
  refine ⟨l, r.fn, _, r.assign, r.body, rfl, run_yield hw (by rw [hr3]; rfl), ?_⟩
  refine roundIn_of_wpIn (F := Fence.wide) trivial ?_
  have htm : (r.params.zip [v].toArray).foldl (fun tmps (t, a) => tmps.setIfInBounds t a) r.tmps = r.tmps.setIfInBounds t v := by rw [hr3]; simp
  rw [htm]
  have hG : RepG 0 S ρ { tmps := r.tmps.setIfInBounds t v, defers := [] } (fr.set t u) := by
    refine ⟨?_, marksOk.nil _ _⟩
    have := (hfr.mono (Store.le_refl S) h1).set_ t (RV.p (ρ := ρ) hv1)
    simpa using this
  refine wpIn_mono ((codeY_ok (rd := some l) hT anyC_mono r.assign _ _ _ h).out 0 S F ρ0 ρ _ w (Nat.zero_le _) trivial h0 h1 hM hG) ?_
  rintro e a1 w1 ⟨x, hx, fr2, M2, S2, ρ2, hk, k1, k2, k3, k4, k5⟩
  cases x with
  | exit i => exact hk.elim
  | ret => exact hk.elim
  | normal =>
    have he : e = .normal := by cases e <;> first | rfl | cases hx
    subst he
    have hw1 := k3.fw l _ hl
    refine ⟨_, run_beginRound hw1 hr1, ?_⟩
    have hM2 := k3.turnF hl (.loop { r with state := .busy })
    refine wpIn_mono ((codeY_ok (rd := some l) hT anyC_mono r.body _ _ _ hk).out 0 S2 _ ρ0 ρ2 _ _ (Nat.zero_le _) trivial h0 k2 hM2 k4) ?_
    rintro e a3 w3 ⟨x, hx, fr3, M3, S3, ρ3, hk3, j1, j2, j3, j4, j5⟩
    cases x with
    | exit i => exact hk3.elim
    | ret => exact hk3.elim
    | normal =>
      have he : e = .normal := by cases e <;> first | rfl | cases hx
      subst he
      obtain ⟨L, hsub, hK⟩ := hk3
      rw [Sub_iff] at hsub
      obtain ⟨S4, ρ4, q1, q2, q3, _⟩ := hsub S3 _ ρ0 ρ3 { tmps := #[], defers := [] } w3 h0 j2 j3 ⟨RVs.nil _ _, rfl⟩
      have hw3 := q3.fw l _ (Store.upd_eq _ _ _)
      have hrec : ({ ({ r with state := .busy } : Loop) with state := if (none : Option Code).isNone then .ready else .done, pending := none } : Loop) = r := by
        obtain ⟨a, b, c, d, e, f, g, h⟩ := r
        simp only at hr1 hr2
        subst hr1; subst hr2
        rfl
      have hend := run_endRound (P := P) none hw3
      rw [hrec] at hend
      refine ⟨_, _, hend, ?_⟩
      have hM4 := q3.turnF (Store.upd_eq _ _ _) (.loop r)
      rw [Store.upd_back hl] at hM4
      exact ⟨_, .bool true, _, S4, ρ4, rfl, hK, Store.le_trans k1 (Store.le_trans j1 q1), q2, hM4, .bool _, ((k5.trans (wle_put hw1 rfl rfl)).trans j5).trans (wle_put hw3 rfl rfl)⟩
end

def labsN (D : List Nat) : Nat → AV → Bool
  | 0, _ => false
  | n + 1, .agg cs => cs.all (labsN D n)
  | n + 1, .tup cs => cs.all (labsN D n)
  | n + 1, .fn _ cs => cs.all (labsN D n)
  | _ + 1, .ptr ℓ _ => D.contains ℓ
  | _ + 1, .row ℓ _ _ => D.contains ℓ
  | _ + 1, .rel ℓ _ _ => D.contains ℓ
  | _ + 1, _ => true
def Env.cut (ρ : Env) (D : List Nat) : Env := fun ℓ => if D.contains ℓ then ρ ℓ else none
theorem Env.cut_le (ρ : Env) (D : List Nat) : Env.le (ρ.cut D) ρ := fun ℓ b h => by
  unfold Env.cut at h
  split at h
  · exact h
  · cases h
theorem Env.cut_in (ρ : Env) (D : List Nat) : EnvIn (ρ.cut D) D := fun ℓ b h => by
  unfold Env.cut at h
  split at h
  · rename_i hc; simpa using hc
  · cases h
theorem Env.cut_eq {ρ : Env} {D : List Nat} {ℓ : Nat} (h : D.contains ℓ = true) : ρ.cut D ℓ = ρ ℓ := by unfold Env.cut; rw [if_pos h]
theorem labsN_ok {S : Store} {ρ : Env} {D : List Nat} : ∀ (n : Nat) {u : AV} {v : Value}, labsN D n u = true → RV S ρ v u → RV S (ρ.cut D) v u := by
  intro n
  induction n with
  | zero => intro u v h; simp [labsN] at h
  | succ n ih =>
    intro u v h hv
    have hl : ∀ {cs : List AV} {vs : List Value}, cs.all (labsN D n) = true → RVs S ρ vs cs → RVs S (ρ.cut D) vs cs := by
      intro cs vs ha hr
      exact ⟨hr.1, fun i u hu => let ⟨v, e, hv⟩ := hr.2 i u hu; ⟨v, e, ih (List.all_eq_true.1 ha u (List.mem_of_getElem? hu)) hv⟩⟩
    cases u with
    | agg cs =>
      obtain ⟨vs, rfl, hr⟩ := hv.agg_inv
      simpa using RV.agg_mk (hl h hr)
    | tup cs =>
      obtain ⟨vs, rfl, hr⟩ := hv.tup_inv
      simpa using RV.tup_mk (hl h hr)
    | fn f cs =>
      obtain ⟨vs, rfl, hr⟩ := hv.fn_inv
      simpa using RV.fn_mk f (hl h hr)
    | ptr ℓ o =>
      obtain ⟨b, hb, rfl⟩ := hv.ptr_inv
      exact .ptr ℓ o b ((Env.cut_eq h).trans hb)
    | row ℓ m sz =>
      obtain ⟨b, hb, hn, hs, hz, rfl⟩ := hv.row_inv
      exact .row ℓ m sz b ((Env.cut_eq h).trans hb) hn hs hz
    | rel ℓ i o =>
      obtain ⟨b, hb, hi, rfl⟩ := hv.rel_inv
      exact .rel ℓ i o b ((Env.cut_eq h).trans hb) hi
    | top => exact .p (.top _)
    | int k n => rw [hv.int_inv]; exact .p (.int _ _)
    | bool b => rw [hv.bool_inv]; exact .p (.bool _)
    | str s => rw [hv.str_inv]; exact .p (.str _)
    | nilsl => rw [hv.nilsl_inv]; exact .p .nilsl
    | val x => rw [hv.val_inv]; exact .p (.val _)
    | sl d enc l => exact .p hv.sl_inv
    | slc d enc l => exact .p hv.slc_inv
    | pd c => exact .p hv.pd_inv
theorem heap2 (w : World) (o o' : Obj) (k : Nat) : ((w.alloc o).alloc o').heap[k]? = if k = w.heap.size + 1 then some o' else if k = w.heap.size then some o else w.heap[k]? := by
  show ((w.heap.push o).push o')[k]? = _
  rw [Array.getElem?_push, Array.size_push, Array.getElem?_push]
theorem wle_alloc {w : World} {o : Obj} (h : cellsO o = false) : Wle w (w.alloc o) := by
  refine ⟨rfl, rfl, rfl, by simp, fun a => ?_⟩
  unfold World.frozen?
  have e : (w.alloc o).heap[a.block]? = if a.block = w.heap.size then some o else w.heap[a.block]? := by
    show (w.heap.push o)[a.block]? = _
    rw [Array.getElem?_push]
  rw [e]
  by_cases h1 : a.block = w.heap.size
  · rw [if_pos h1, h1, Array.getElem?_eq_none (Nat.le_refl _)]
    cases o <;> first | rfl | (simp [cellsO] at h; done)
  · rw [if_neg h1]
section
variable {P : Program} {tt : TT}
theorem WPy.range {C0 : Cond} {D0 : List Nat} {g : Operand} {t : Tmp} {asg bdy : Code} {fr : List AV} {M : Mem} {Q : APost} {gf : FuncId} {caps : List AV} (D : List Nat) (K : Mem → Prop)
    (hg : avOf fr g = .fn gf caps) (hfr : fr.all (labsN D 5) = true) (hD : D0.all (fun ℓ => D.contains ℓ) = true)
    (hit : ∀ l r, r.state = .ready → r.pending = none → r.params = #[t] → r.assign = asg → r.body = bdy → SpecY P (recC l r fr) D gf (.val (.func (.yield l) #[] #[]) :: caps) M (fun _ M' => K M'))
    (hQ : ∀ M', K M' → Q .normal fr M') : WPy P none C0 D0 (.rangeFunc g #[t] asg bdy) fr M Q := by
  refine ⟨fun N S F ρ0 ρ a w hN hc h0 h1 hM hF => ?_⟩
  refine wpIn_rangeFunc fun fn _ => ?_
  have hgv := hF.f.eval g
  have he : ({ a with defers := [] } : Act).eval g = a.eval g := by cases g <;> rfl
  rw [he, hg] at hgv
  obtain ⟨cv, hcv, hcaps⟩ := hgv.fn_inv
  let r : Loop := { state := .ready, pending := none, fn := fn, tmps := a.tmps, params := #[t], assign := asg, body := bdy, defers := w.heap.size }
  have hspec := (hit (w.heap.size + 1) r rfl rfl rfl rfl rfl).out
  obtain ⟨⟨fnn, p1, p2, p3⟩, hspec⟩ := hspec
  let w1 : World := (w.alloc (.deferred (some []))).alloc (.loop r)
  have hH := heap2 w (.deferred (some [])) (.loop r)
  have hSn : ∀ k, w.heap.size ≤ k → S k = none := fun k hk => below_none hM.sw hk
  have hFn : ∀ k, w.heap.size ≤ k → F k = none := fun k hk => below_none hM.fw hk
  have hSl : ∀ k o, S k = some o → k < w.heap.size := fun k o hk => (Array.getElem?_eq_some_iff.1 (hM.sw k o hk)).1
  have hFl : ∀ k o, F k = some o → k < w.heap.size := fun k o hk => (Array.getElem?_eq_some_iff.1 (hM.fw k o hk)).1
  have hM1 : RepM (S.upd w.heap.size (some (.deferred (some [])))) (F.upd (w.heap.size + 1) (some (.loop r))) ρ M w1 := by
    refine hM.swap (fun b v hv => ?_) (fun k x hk => ?_) (fun k x hk => ?_) (fun b => ?_) (fun k g1 g2 g3 => ?_)
    · rw [cell_upd]
      · exact hv
      · intro e
        unfold Store.cell at hv
        rw [e, hSn _ (Nat.le_refl _)] at hv
        cases hv
    · by_cases e : k = w.heap.size
      · subst e
        rw [Store.upd_eq] at hk
        rw [hH, if_neg (by omega), if_pos rfl]; exact hk
      · rw [Store.upd_ne _ _ e] at hk
        have := hSl k x hk
        rw [hH, if_neg (by omega), if_neg e]; exact hM.sw k x hk
    · by_cases e : k = w.heap.size + 1
      · subst e
        rw [Store.upd_eq] at hk
        rw [hH, if_pos rfl]; exact hk
      · rw [Store.upd_ne _ _ e] at hk
        have := hFl k x hk
        rw [hH, if_neg e, if_neg (by omega)]; exact hM.fw k x hk
    · by_cases e : b = w.heap.size
      · right
        rw [Store.upd_ne _ _ (by omega)]
        exact hFn _ (by omega)
      · rw [Store.upd_ne _ _ e]
        by_cases e2 : b = w.heap.size + 1
        · exact .inl (hSn _ (by omega))
        · rw [Store.upd_ne _ _ e2]; exact hM.sf b
    · exact ⟨by rw [hH, if_neg (by omega), if_neg (by omega)], by rw [Store.upd_ne _ _ (by omega)]; exact g1, by rw [Store.upd_ne _ _ (by omega)]; exact g2⟩
  have hle : S.le (S.upd w.heap.size (some (.deferred (some [])))) := fun k x hk => by
    have := hSl k x hk
    rw [Store.upd_ne _ _ (by omega)]; exact hk
  have hcut : RVs S (ρ.cut D) a.tmps.toList fr := ⟨hF.1.1, fun i u hu => let ⟨v, e, hv⟩ := hF.1.2 i u hu; ⟨v, e, labsN_ok 5 (List.all_eq_true.1 hfr u (List.mem_of_getElem? hu)) hv⟩⟩
  refine ⟨w.heap.size + 1, [mark w.heap.size], w1, { target := .fn (.func gf) cv, args := #[.func (.yield (w.heap.size + 1)) #[] #[]] }, w1, gf, #[.func (.yield (w.heap.size + 1)) #[] #[]] ++ cv, w1, run_enterLoop_outer fn a.tmps #[t] asg bdy, ?_, fun _ _ => trivial, ?_, fun hh => (by cases hh), callsIn_wideR ?_⟩
  · simp only [resolve, rangeCall, hcv, Deferred.ofValue, Sem.run_pure]
    have e : #[] ++ Array.map a.eval #[Operand.const (Value.func (Fn.yield (w.heap.size + 1)) #[] #[])] = #[Value.func (Fn.yield (w.heap.size + 1)) #[] #[]] := by simp [Act.eval]
    rw [e]
  · simp only [invoke, callFunc, Sem.run_bind, run_program, p1, p2, p3, Result.andThen_ok, Bool.false_eq_true, if_false]
    rfl
  have harr : (#[.func (.yield (w.heap.size + 1)) #[] #[]] ++ cv) = (.func (.yield (w.heap.size + 1)) #[] #[] :: cv.toList).toArray := by apply Array.ext'; simp
  rw [harr]
  refine (hspec _ _ (ρ.cut D) ρ _ w1 ⟨Store.upd_eq _ _ _, hcut.mono hle (Env.le_refl _)⟩ (Env.cut_in ρ D) (Env.cut_le ρ D) hM1 (RVs.cons (.p (.val _)) (hcaps.mono hle (Env.le_refl _)))).mono ?_
  rintro e w3 ⟨v, u, M', S', ρ', rfl, hK, k1, k2, k3, k4, k5⟩
  have hw3 := k3.fw (w.heap.size + 1) _ (Store.upd_eq _ _ _)
  have hS'l : S' (w.heap.size + 1) = none := (k3.sf _).resolve_right (by rw [Store.upd_eq]; simp)
  refine ⟨_, _, run_endLoop hw3 (by simp [r]), ?_⟩
  have hM4 : RepM S' F ρ' M' (w3.putObj (w.heap.size + 1) (.loop { r with state := .exhausted })) := by
    refine k3.swap (fun _ _ h => h) (fun k x hk => ?_) (fun k x hk => ?_) (fun b => ?_) (fun k g1 g2 g3 => ?_)
    · have e : k ≠ w.heap.size + 1 := fun e => by rw [e, hS'l] at hk; cases hk
      rw [World.putObj_heap_other e]; exact k3.sw k x hk
    · have := hFl k x hk
      have e : k ≠ w.heap.size + 1 := by omega
      rw [World.putObj_heap_other e]; exact k3.fw k x (by rw [Store.upd_ne _ _ e]; exact hk)
    · by_cases e : b = w.heap.size + 1
      · subst e; exact .inl hS'l
      · have := k3.sf b
        rw [Store.upd_ne _ _ e] at this
        exact this
    · have e : k ≠ w.heap.size + 1 := fun e => by rw [e, Store.upd_eq] at g2; cases g2
      rw [Store.upd_ne _ _ e] at g2
      exact ⟨World.putObj_heap_other e, g1, g2⟩
  have hρ : Env.le ρ0 ρ' := fun ℓ b hb => k2 ℓ b ((Env.cut_eq (List.all_eq_true.1 hD ℓ (h0 ℓ b hb))).trans (h1 ℓ b hb))
  obtain ⟨Ds, d1, d2, d3⟩ := hF.2
  refine ⟨.normal, rfl, fr, M', S', ρ', hQ M' hK, Store.le_trans hle k1, hρ, hM4, ⟨(hcut.mono hle (Env.le_refl _)).mono k1 k2, w.heap.size :: Ds, ?_, ?_, ?_⟩, (((wle_alloc rfl).trans (wle_alloc rfl)).trans k5).trans (wle_put hw3 rfl rfl)⟩
  · show [mark w.heap.size] ++ a.defers = _
    rw [d1]; rfl
  · refine List.nodup_cons.2 ⟨fun hin => ?_, d2⟩
    have := hSl _ _ (d3 _ hin).2
    omega
  · intro Dk hk
    rcases List.mem_cons.1 hk with rfl | hk
    · exact ⟨hN, k1 _ _ (Store.upd_eq _ _ _)⟩
    · exact ⟨(d3 Dk hk).1, k1 _ _ (hle _ _ (d3 Dk hk).2)⟩
end

theorem WPy.sub {P : Program} {rd : Option Nat} {C : Cond} {D : List Nat} (hC : ∀ S S' F ρ0, S.le S' → C S F ρ0 → C S' F ρ0) {c : Code} {fr fr' : List AV} {M M' : Mem} {Q : APost} (hs : Sub D fr M fr' M') (h : WPy P rd C D c fr' M' Q) : WPy P rd C D c fr M Q := by
  refine ⟨fun N S F ρ0 ρ a w hN hc h0 h1 hM hF => ?_⟩
  obtain ⟨S', ρ', k1, k2, k3, k4⟩ := hs.g h0 h1 hM hF
  refine wpIn_mono (h.out N S' F ρ0 ρ' a w hN (hC _ _ _ _ k1 hc) h0 k2 k3 k4) ?_
  rintro e a' w' ⟨x, hx, ha⟩
  exact ⟨x, hx, ha.trans k1 (Env.le_refl _) (Wle.refl _)⟩
theorem WPy.subM {P : Program} {rd : Option Nat} {C : Cond} {D : List Nat} (hC : ∀ S S' F ρ0, S.le S' → C S F ρ0 → C S' F ρ0) {c : Code} {fr : List AV} {M M' : Mem} {Q : APost} (hs : Sub D fr M fr M') (h : WPy P rd C D c fr M' Q) : WPy P rd C D c fr M Q := WPy.sub hC hs h
/-- what speaks of labels is not known -/
def maskP : List AV → (List AV → Prop) → Prop
  | [], k => k []
  | u :: fr, k => match persN 5 u with
    | true => maskP fr fun r => k (u :: r)
    | false => maskP fr fun r => k (.top :: r)
theorem maskP_ex : ∀ (fr : List AV) (k : List AV → Prop), maskP fr k → ∃ fr1, fr1.all (persN 5) = true ∧ k fr1
  | [], k, h => ⟨[], rfl, h⟩
  | u :: fr, k, h => by
    unfold maskP at h
    split at h
    · rename_i hp
      obtain ⟨r, h1, h2⟩ := maskP_ex fr _ h
      exact ⟨_, by simp [hp, h1], h2⟩
    · obtain ⟨r, h1, h2⟩ := maskP_ex fr _ h
      refine ⟨_, ?_, h2⟩
      simp only [List.all_cons, h1, Bool.and_true]
      rfl
theorem YCI {P : Program} {C : Cond} {D : List Nat} {v : Value} {args : List AV} {fr : List AV} {M : Mem} {K : List AV → AV → Mem → Prop} (L1 : List (Nat × Blk)) (ha : args.all (persN 5) = true) (h : maskP fr fun fr1 => Sub D fr M fr1 (Mem.ofL L1) ∧ YS P C D v args (Mem.ofL L1) (K fr1)) : YC P C D v args fr M K := by
  obtain ⟨fr1, h1, h2, h3⟩ := maskP_ex _ _ h
  exact ⟨fr1, L1, h2, h1, ha, h3⟩
theorem YS.mono {P : Program} {C : Cond} {D : List Nat} {v : Value} {args : List AV} {M : Mem} {K K' : AV → Mem → Prop} (h : YS P C D v args M K) (hk : ∀ u M, K u M → K' u M) : YS P C D v args M K' := by
  refine ⟨fun S F ρ0 ρ vs w a b c d e => ?_⟩
  obtain ⟨l, fn, tmps, asg, bdy, h1, h2, h3⟩ := h.out S F ρ0 ρ vs w a b c d e
  exact ⟨l, fn, tmps, asg, bdy, h1, h2, h3.mono fun e w' ⟨v', u, M', S', ρ', g0, g1, g⟩ => ⟨v', u, M', S', ρ', g0, hk _ _ g1, g⟩⟩
end Go.Proofs.YtgbicnldbhfhiaaDoor
