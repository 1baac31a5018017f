/-
  Entering a function, leaving it, and calling one that hands out or takes blocks by label.
-/
import Derived.Test.YtihligeggkpolaaSymS
namespace Go.Proofs.Ytihligeggkpolaa

def pad0 : Nat → (List AV → Prop) → Prop
  | 0, k => k []
  | n + 1, k => pad0 n fun l => k (.tup [] :: l)
theorem pad0_eq : ∀ (n : Nat) (k : List AV → Prop), pad0 n k = k (List.replicate n (.tup []))
  | 0, k => rfl
  | n + 1, k => by rw [pad0, pad0_eq n]; rfl
def padK : List AV → Nat → (List AV → Prop) → Prop
  | [], n, k => pad0 n k
  | u :: us, n, k => padK us n fun l => k (u :: l)
theorem padK_eq : ∀ (us : List AV) (n : Nat) (k : List AV → Prop), padK us n k = k (us ++ List.replicate n (.tup []))
  | [], n, k => by rw [padK, pad0_eq]; rfl
  | u :: us, n, k => by rw [padK, padK_eq us n]; rfl

def resSem (tmps : Array Value) : ResultVar → Sem Value
  | .tmp t => pure (tmps.getD t undef)
  | .cell x t => do loadVar t (← asAddr (tmps.getD x undef))
def resK (tt : TT) (fr : List AV) (M : Mem) : List ResultVar → (List AV → Prop) → Prop
  | [], k => k []
  | r :: rs, k => match r with
    | .tmp t => getK fr t fun u => resK tt fr M rs fun us => k (u :: us)
    | .cell a t => getK fr a fun p => rsK (evLoad tt t M p) fun u => resK tt fr M rs fun us => k (u :: us)
def tupOf : List AV → AV
  | [u] => u
  | us => .tup us
/-- rows among the results become known for good -/
def leakR : List AV → Mem → (List AV → Mem → Prop) → Prop
  | [], M, K => K [] M
  | u :: us, M, K => match u with
    | .agg cs => leakK cs M fun cs' M' => leakR us M' fun us' M'' => K (.agg cs' :: us') M''
    | u => leakK [u] M fun x M' => leakR us M' fun us' M'' => K (x ++ us') M''

section
variable {S F : Store} {ρ : Env} {M : Mem} {w : World} {P : Program} {tt : TT}

theorem resK_ok (hT : TOkB P tt = true) (hM : RepM S F ρ M w) {a : Act} {fr : List AV} (hF : RepF S ρ a fr) : ∀ (rs : List ResultVar) (k : List AV → Prop), resK tt fr M rs k →
    ∃ vs us, k us ∧ RVs S ρ vs us ∧ vs.length = rs.length ∧ (rs.mapM (resSem a.tmps)).run P w = .ok vs w
  | [], k, h => ⟨[], [], h, RVs.nil _ _, rfl, by simp⟩
  | r :: rs, k, h => by
    cases r with
    | tmp t =>
      simp only [resK, getK_eq] at h
      obtain ⟨vs, us, hk, hv, hl, hr⟩ := resK_ok hT hM hF rs _ h
      exact ⟨a.tmps.getD t undef :: vs, _, hk, RVs.cons (hF.eval (.tmp t)) hv, by simp [hl], by simp [List.mapM_cons, hr, resSem]⟩
    | cell x t =>
      simp only [resK, getK_eq] at h
      have hx := hF.eval (.tmp x)
      obtain ⟨v, u, he, hv, h⟩ := rsK_ok h (evLoad_ok (t := t) hT hM hx).next
      obtain ⟨vs, us, hk, hvs, hl, hr⟩ := resK_ok hT hM hF rs _ h
      have he' : (Instr.loadAt t (a.eval (.tmp x))).run P w = .ok v w := by
        simp only [Sem.run_bind] at he
        cases hq : (Instr.loadAt t (a.eval (.tmp x))).run P w with
        | ok y w' => rw [hq] at he; simp at he; rw [he.1, he.2]
        | halt y w' => rw [hq] at he; simp at he
      have he2 : (resSem a.tmps (.cell x t)).run P w = .ok v w := by
        unfold resSem
        have : a.eval (.tmp x) = a.tmps.getD x undef := rfl
        rw [this] at he'
        show (do loadVar t (← asAddr (a.tmps.getD x undef)) : Sem Value).run P w = .ok v w
        generalize a.tmps.getD x undef = y at he' ⊢
        unfold Instr.loadAt Instr.sureAddr at he'
        cases y with
        | pointer ad =>
          cases ad with
          | some ad => simpa [asAddr] using he'
          | none => simp at he'
        | _ => simp at he'
      exact ⟨v :: vs, _, hk, RVs.cons hv hvs, by simp [hl], by simp [List.mapM_cons, he2, hr]⟩

theorem leakR_ok : ∀ (us : List AV) (vs : List Value) (S : Store) (M : Mem) (K : List AV → Mem → Prop), leakR us M K → RVs S ρ vs us → RepM S F ρ M w →
    ∃ us' M' S', K us' M' ∧ S.le S' ∧ RVs S' ρ vs us' ∧ RepM S' F ρ M' w
  | [], vs, S, M, K, h, hv, hM => ⟨[], M, S, h, Store.le_refl _, hv, hM⟩
  | u :: us, vs, S, M, K, h, hv, hM => by
    obtain ⟨x, xs, rfl, hx, hxs⟩ := hv.cons_inv
    simp only [leakR] at h
    split at h
    · rename_i cs
      obtain ⟨ys, rfl, hys⟩ := hx.agg_inv
      obtain ⟨cs', M1, S1, h, hle, hc, hM1, _⟩ := leakK_ok _ _ _ _ _ h hys hM
      obtain ⟨us', M', S', hK, hle', hvs', hM'⟩ := leakR_ok us xs S1 M1 _ h (hxs.mono hle (Env.le_refl _)) hM1
      refine ⟨_, M', S', hK, Store.le_trans hle hle', RVs.cons ?_ hvs', hM'⟩
      have := RV.agg_mk (hc.mono hle' (Env.le_refl _))
      simpa using this
    · obtain ⟨y, M1, S1, h, hle, hc, hM1, _⟩ := leakK_ok _ [x] _ _ _ h (RVs.cons hx (RVs.nil _ _)) hM
      obtain ⟨us', M', S', hK, hle', hvs', hM'⟩ := leakR_ok us xs S1 M1 _ h (hxs.mono hle (Env.le_refl _)) hM1
      exact ⟨_, M', S', hK, Store.le_trans hle hle', (hc.mono hle' (Env.le_refl _)).append hvs', hM'⟩

theorem tupOf_ok {vs : List Value} {us : List AV} (hv : RVs S ρ vs us) : RV S ρ (if h : vs.length = 1 then vs[0] else .tuple vs.toArray) (tupOf us) := by
  cases us with
  | nil => rw [hv.nil_inv]; simpa [tupOf] using RV.tup_mk (RVs.nil S ρ)
  | cons u us =>
    obtain ⟨x, xs, rfl, hx, hxs⟩ := hv.cons_inv
    cases us with
    | nil => have := hxs.nil_inv; subst this; simpa [tupOf] using hx
    | cons u2 us =>
      obtain ⟨x2, xs2, rfl, _, _⟩ := hxs.cons_inv
      simpa [tupOf] using RV.tup_mk hv

/-- what a function's end asks -/
def endK (tt : TT) (rs : List ResultVar) (R : AV → Mem → Prop) : APost := fun e fr M => match e with
  | .normal => resK tt fr M rs fun us => R (tupOf us) M
  | .ret => resK tt fr M rs fun us => R (tupOf us) M
  | .exit _ => False
def endP (tt : TT) (rs : List ResultVar) (R : AV → Prop) : APost := fun e fr M => match e with
  | .normal => resK tt fr M rs fun us => leakR us M fun us' _ => R (tupOf us') ∧ persN 5 (tupOf us') = true
  | .ret => resK tt fr M rs fun us => leakR us M fun us' _ => R (tupOf us') ∧ persN 5 (tupOf us') = true
  | .exit _ => False

theorem run_results {fn : Func} {tmps : Array Value} {vs : List Value} (h : (fn.results.toList.mapM (resSem tmps)).run P w = .ok vs w) : (results fn tmps).run P w = .ok (if h : vs.length = 1 then vs[0] else .tuple vs.toArray) w := by
  have e : results fn tmps = (do
      let vs ← fn.results.mapM (resSem tmps)
      pure (if h : vs.size = 1 then vs[0] else .tuple vs)) := by
    unfold results
    congr 2
  rw [e, Array.mapM_eq_mapM_toList]
  simp only [Sem.run_bind, Sem.run_map, h, Result.andThen_ok, Sem.run_pure]
  congr 1

theorem spec_core {f : FuncId} {fn : Func} {c : Code} {args : List AV} {D : List Nat} (hf : P.funcs[f]? = some fn) (hb : fn.body = some c) {Q : APost}
    (hw : padK args (fn.ntmps - args.length) fun fr => WPc P D c fr M Q) {ρ0 : Env} (hD : EnvIn ρ0 D) {vs : List Value} (hM : RepM S F ρ0 M w) (hv : RVs S ρ0 vs args) {R : Ending → World → Prop}
    (hR : ∀ (e : AEx) a' w', After S F ρ0 w (Q e) a' w' → a'.defers = [] → (∀ i, e ≠ .exit i) ∧ ∃ v, (results fn a'.tmps).run P w' = .ok v w' ∧ R (.returned v) w') : Calls P f vs.toArray w R := by
  rw [padK_eq] at hw
  rw [WPc_iff] at hw
  refine calls_of_wp hf hb ?_
  have hlen := hv.1
  have hF : RepF S ρ0 { tmps := vs.toArray ++ Array.replicate (fn.ntmps - vs.toArray.size) undef, defers := [] } (args ++ List.replicate (fn.ntmps - args.length) (.tup [])) := by
    refine ⟨?_, rfl⟩
    have e : (vs.toArray ++ Array.replicate (fn.ntmps - vs.toArray.size) undef).toList = vs ++ List.replicate (fn.ntmps - args.length) undef := by simp [hlen]
    rw [e]
    refine hv.append ⟨by simp, fun i u hu => ?_⟩
    have hi := (List.getElem?_eq_some_iff.1 hu).1
    simp only [List.length_replicate] at hi
    have hu' : u = .tup [] := by
      rw [List.getElem?_replicate] at hu
      simp [hi] at hu
      exact hu.symm
    subst hu'
    exact ⟨undef, by simp [hi], RV.tup_mk (RVs.nil _ _)⟩
  refine wp_mono (hw S F ρ0 ρ0 _ w hD (Env.le_refl _) hM hF) ?_
  rintro e a' w' ⟨x, hx, ha⟩
  have hd : a'.defers = [] := by obtain ⟨_, _, _, _, _, _, _, _, hF', _⟩ := ha; exact hF'.2
  obtain ⟨h1, v, h2, h3⟩ := hR x a' w' ha hd
  cases e with
  | normal => exact ⟨hd, v, h2, h3⟩
  | ret => exact ⟨hd, v, h2, h3⟩
  | exit i => cases hx; exact absurd rfl (h1 i)
  | goto l => cases hx
  | panic l => cases hx
  | outgrown => cases hx

theorem plain_of {f : FuncId} {fn : Func} {c : Code} (hf : P.funcs[f]? = some fn) (hb : fn.body = some c) (hn : (fn.name == "runtime.NumGoroutine") = false) : Plain P f := ⟨fn, hf, hn, by rw [hb]; rfl⟩

/-- a contract, by the walk of the body -/
theorem Spec.intro (hT : TOkB P tt = true) (hm : P.follows .mixedOrders = true) {f : FuncId} {fn : Func} {c : Code} {args : List AV} (L : List (Nat × Blk)) {R : AV → Mem → Prop} (hf : P.funcs[f]? = some fn) (hb : fn.body = some c) (hn : (fn.name == "runtime.NumGoroutine") = false)
    (h : padK args (fn.ntmps - args.length) fun fr => codeK P tt (L.map (·.1)) c fr (Mem.ofL L) (endK tt fn.results.toList R)) : Spec P f args (Mem.ofL L) R := by
  rw [Spec_iff]
  refine ⟨plain_of hf hb hn, fun S F ρ vs w hM hv => ?_⟩
  have hD : EnvIn ρ (L.map (·.1)) := fun ℓ b hb => by
    have := hM.dom ℓ b hb
    cases hB : Mem.ofL L ℓ with
    | none => exact absurd hB this
    | some B => exact List.mem_map_of_mem (f := (·.1)) (ofL_mem hB)
  refine spec_core (D := L.map (·.1)) (Q := endK tt fn.results.toList R) hf hb ?_ hD hM hv fun e a' w' ha hd => ?_
  · rw [padK_eq] at h ⊢; exact codeK_ok hT hm c _ _ _ h
  · obtain ⟨fr, M', S', ρ', hk, h1, h2, h3, h4, h5⟩ := ha
    have fin : resK tt fr M' fn.results.toList (fun us => R (tupOf us) M') → ∃ v, (results fn a'.tmps).run P w' = .ok v w' ∧ CallPost S F ρ w R (.returned v) w' := by
      intro hk
      obtain ⟨vs', us, hK, hvs, hl, hr⟩ := resK_ok hT h3 h4 _ _ hk
      exact ⟨_, run_results hr, _, _, M', S', ρ', rfl, hK, h1, h2, h3, tupOf_ok hvs, h5⟩
    cases e with
    | normal => exact ⟨by simp, fin hk⟩
    | ret => exact ⟨by simp, fin hk⟩
    | exit i => exact hk.elim

theorem PSpec.intro (hT : TOkB P tt = true) (hm : P.follows .mixedOrders = true) {f : FuncId} {fn : Func} {c : Code} {args : List AV} {R : AV → Prop} (hf : P.funcs[f]? = some fn) (hb : fn.body = some c) (hn : (fn.name == "runtime.NumGoroutine") = false)
    (h : padK args (fn.ntmps - args.length) fun fr => codeK P tt [] c fr Mem.none (endP tt fn.results.toList R)) : PSpec P f args R := by
  rw [PSpec_iff]
  refine ⟨plain_of hf hb hn, fun S F vs w hs hfr hd hv => ?_⟩
  refine spec_core (M := Mem.none) (ρ0 := fun _ => none) (D := []) (Q := endP tt fn.results.toList R) hf hb ?_ (fun ℓ b hb => by cases hb) ⟨hs, hfr, hd, by simp, by simp [Mem.none], by simp⟩ (hv.rv _) fun e a' w' ha hd' => ?_
  · rw [padK_eq] at h ⊢; exact codeK_ok hT hm c _ _ _ h
  · obtain ⟨fr, M', S', ρ', hk, h1, h2, h3, h4, h5⟩ := ha
    have fin : (resK tt fr M' fn.results.toList fun us => leakR us M' fun us' _ => R (tupOf us') ∧ persN 5 (tupOf us') = true) → ∃ v, (results fn a'.tmps).run P w' = .ok v w' ∧ PurePost S F w R (.returned v) w' := by
      intro hk
      obtain ⟨vs', us, hK, hvs, hl, hr⟩ := resK_ok hT h3 h4 _ _ hk
      obtain ⟨us', M2, S2, ⟨hR, hp⟩, hle, hvs2, hM2⟩ := leakR_ok _ _ _ _ _ hK hvs h3
      exact ⟨_, run_results hr, _, _, S2, rfl, hR, Store.le_trans h1 hle, hM2.sw, hM2.fw, hM2.sf, persN_ok 5 hp (tupOf_ok hvs2), h5⟩
    cases e with
    | normal => exact ⟨by simp, fin hk⟩
    | ret => exact ⟨by simp, fin hk⟩
    | exit i => exact hk.elim
end

end Go.Proofs.Ytihligeggkpolaa
