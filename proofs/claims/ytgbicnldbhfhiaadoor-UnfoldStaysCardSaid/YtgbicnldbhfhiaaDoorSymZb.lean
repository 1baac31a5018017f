
/-
  Ranging over a function: code, loops, contracts of functions that call yield, rounds, and the statement.
-/
import Derived.Test.YtgbicnldbhfhiaaDoorSymZ
set_option linter.unusedVariables false
set_option linter.unusedSimpArgs false
namespace Go.Proofs.YtgbicnldbhfhiaaDoor

structure WPy (P : Program) (rd : Option Nat) (C : Cond) (D : List Nat) (c : Code) (fr : List AV) (M : Mem) (Q : APost) : Prop where
  out : ∀ N S F ρ0 ρ a w, N ≤ w.heap.size → C S F ρ0 → EnvIn ρ0 D → Env.le ρ0 ρ → RepM S F ρ M w → RepG N S ρ a fr → c.wpIn (wideR rd) 0 P (fun e a' w' => ∃ x, absE e = some x ∧ AfterG N S F ρ0 w (Q x) a' w') a w
def codeY (P : Program) (tt : TT) (rd : Option Nat) (C : Cond) (D : List Nat) : Code → List AV → Mem → APost → Prop
  | .skip, fr, M, Q => Q .normal fr M
  | .region _ ops draw, fr, M, Q => match draw with
    | false => opsY P tt C D ops.toList ops.toList fr M (Q .normal)
    | true => False
  | .seq a b, fr, M, Q => codeY P tt rd C D a fr M fun e fr' M' => match e with
    | .normal => codeY P tt rd C D b fr' M' Q
    | .exit i => Q (.exit i) fr' M'
    | .ret => Q .ret fr' M'
  | .cond c x y, fr, M, Q => avK fr c fun u => match u with
    | .bool true => codeY P tt rd C D x fr M Q
    | .bool false => codeY P tt rd C D y fr M Q
    | _ => False
  | .block id c, fr, M, Q => codeY P tt rd C D c fr M fun e fr' M' => match e with
    | .normal => Q .normal fr' M'
    | .exit i => match Nat.beq i id with
      | true => Q .normal fr' M'
      | false => Q (.exit i) fr' M'
    | .ret => Q .ret fr' M'
  | .exit id, fr, M, Q => Q (.exit id) fr M
  | .ret, fr, M, Q => Q .ret fr M
  | .loop c, fr, M, Q => WPy P rd C D (.loop c) fr M Q
  | .rangeFunc f ps as c, fr, M, Q => WPy P rd C D (.rangeFunc f ps as c) fr M Q
  | .scope c, fr, M, Q => WPy P rd C D (.scope c) fr M Q
  | .label l, fr, M, Q => WPy P rd C D (.label l) fr M Q
  | .goto l, fr, M, Q => WPy P rd C D (.goto l) fr M Q
  | .refuse s, fr, M, Q => WPy P rd C D (.refuse s) fr M Q

section
variable {P : Program} {tt : TT} {rd : Option Nat} {C : Cond} {D : List Nat}
theorem codeY_ok (hT : TOkB P tt = true) (hC : ∀ S S' F ρ0, S.le S' → C S F ρ0 → C S' F ρ0) : ∀ (c : Code) (fr : List AV) (M : Mem) (Q : APost), codeY P tt rd C D c fr M Q → WPy P rd C D c fr M Q := by
  intro c
  induction c with
  | skip =>
    intro fr M Q h
    refine ⟨fun N S F ρ0 ρ a w hN hc h0 h1 hM hF => ?_⟩
    exact wpIn_skip ⟨.normal, rfl, fr, M, S, ρ, h, Store.le_refl _, h1, hM, hF, Wle.refl _⟩
  | region id ops draw =>
    intro fr M Q h
    refine ⟨fun N S F ρ0 ρ a w hN hc h0 h1 hM hF => ?_⟩
    simp only [codeY] at h
    have e : ops = ops.toList.toArray := by simp
    cases draw with
    | false =>
      rw [e]
      exact wpIn_region_lit (opsY_ok hT hC h0 ops.toList S ρ w a fr M h hc h1 hM hF fun a' w' ha => ⟨.normal, rfl, ha⟩)
    | true => exact h.elim
  | seq x y ihx ihy =>
    intro fr M Q h
    have hx := ihx fr M _ h
    refine ⟨fun N S F ρ0 ρ a w hN hc h0 h1 hM hF => ?_⟩
    refine wpIn_seq (wpIn_mono (hx.out N S F ρ0 ρ a w hN hc h0 h1 hM hF) ?_)
    rintro e a' w' ⟨ex, he, f, M', S', ρ', k, k1, k2, k3, k4, k5⟩
    cases e with
    | normal =>
      cases he
      refine wpIn_mono ((ihy f M' Q k).out N S' F ρ0 ρ' a' w' (Nat.le_trans hN k5.size) (hC _ _ _ _ k1 hc) h0 k2 k3 k4) ?_
      rintro e2 a2 w2 ⟨ex2, he2, ha⟩
      exact ⟨ex2, he2, ha.trans k1 (Env.le_refl _) k5⟩
    | exit i => cases he; exact ⟨_, rfl, f, M', S', ρ', k, k1, k2, k3, k4, k5⟩
    | ret => cases he; exact ⟨_, rfl, f, M', S', ρ', k, k1, k2, k3, k4, k5⟩
    | goto l => cases he
    | panic l => cases he
    | outgrown => cases he
  | cond c x y ihx ihy =>
    intro fr M Q h
    simp only [codeY, avK_eq] at h
    refine ⟨fun N S F ρ0 ρ a w hN hc h0 h1 hM hF => ?_⟩
    have hcv := hF.f.eval c
    have he : ({ a with defers := [] } : Act).eval c = a.eval c := by cases c <;> rfl
    rw [he] at hcv
    split at h
    · rename_i hb
      rw [hb] at hcv
      exact wpIn_cond_true hcv.bool_inv ((ihx fr M Q h).out N S F ρ0 ρ a w hN hc h0 h1 hM hF)
    · rename_i hb
      rw [hb] at hcv
      exact wpIn_cond_false hcv.bool_inv ((ihy fr M Q h).out N S F ρ0 ρ a w hN hc h0 h1 hM hF)
    · exact h.elim
  | block id c ih =>
    intro fr M Q h
    have hx := ih fr M _ h
    refine ⟨fun N S F ρ0 ρ a w hN hc h0 h1 hM hF => ?_⟩
    refine wpIn_block (wpIn_mono (hx.out N S F ρ0 ρ a w hN hc h0 h1 hM hF) ?_)
    rintro e a' w' ⟨ex, he, f, M', S', ρ', k, k1, k2, k3, k4, k5⟩
    cases e with
    | normal => cases he; exact ⟨_, rfl, f, M', S', ρ', k, k1, k2, k3, k4, k5⟩
    | exit i =>
      cases he
      simp only [Exit.inBlock]
      simp only at k
      split at k
      · rename_i hb
        rw [if_pos (Nat.eq_of_beq_eq_true hb)]
        exact ⟨_, rfl, f, M', S', ρ', k, k1, k2, k3, k4, k5⟩
      · rename_i hb
        rw [if_neg (fun e => by subst e; simp at hb)]
        exact ⟨_, rfl, f, M', S', ρ', k, k1, k2, k3, k4, k5⟩
    | ret => cases he; exact ⟨_, rfl, f, M', S', ρ', k, k1, k2, k3, k4, k5⟩
    | goto l => cases he
    | panic l => cases he
    | outgrown => cases he
  | exit id =>
    intro fr M Q h
    refine ⟨fun N S F ρ0 ρ a w hN hc h0 h1 hM hF => ?_⟩
    exact wpIn_exit ⟨_, rfl, fr, M, S, ρ, h, Store.le_refl _, h1, hM, hF, Wle.refl _⟩
  | ret =>
    intro fr M Q h
    refine ⟨fun N S F ρ0 ρ a w hN hc h0 h1 hM hF => ?_⟩
    exact wpIn_ret ⟨_, rfl, fr, M, S, ρ, h, Store.le_refl _, h1, hM, hF, Wle.refl _⟩
  | loop c _ => intro fr M Q h; exact h
  | rangeFunc f ps as c _ _ => intro fr M Q h; exact h
  | scope c _ => intro fr M Q h; exact h
  | label l => intro fr M Q h; exact h
  | goto l => intro fr M Q h; exact h
  | refuse s => intro fr M Q h; exact h

theorem Sub.g {fr fr' : List AV} {M M' : Mem} (hs : Sub D fr M fr' M') {N : Nat} {S F : Store} {ρ0 ρ : Env} {a : Act} {w : World} (h0 : EnvIn ρ0 D) (h1 : Env.le ρ0 ρ) (hM : RepM S F ρ M w) (hF : RepG N S ρ a fr) : ∃ S' ρ', S.le S' ∧ Env.le ρ0 ρ' ∧ RepM S' F ρ' M' w ∧ RepG N S' ρ' a fr' := by
  rw [Sub_iff] at hs
  obtain ⟨S', ρ', k1, k2, k3, k4⟩ := hs S F ρ0 ρ _ w h0 h1 hM hF.f
  exact ⟨S', ρ', k1, k2, k3, k4.1, hF.2.mono k1⟩

theorem WPy.loop (hC : ∀ S S' F ρ0, S.le S' → C S F ρ0 → C S' F ρ0) {c : Code} {fr : List AV} {M : Mem} {Q : APost} {X : Type _} (I : X → Prop) (frI : X → List AV) (MI : X → Mem) (μ : X → Nat) (x0 : X) (hi : I x0) (hs : Sub D fr M (frI x0) (MI x0))
    (h : ∀ x, I x → WPy P rd C D c (frI x) (MI x) (loopPost D I frI MI μ x Q)) : WPy P rd C D (.loop c) fr M Q := by
  refine ⟨fun N S F ρ0 ρ a w hN hc h0 h1 hM hF => ?_⟩
  intro b k cs hro hb hr
  have key : ∀ (n : Nat) (x : X) (S1 : Store) (ρ1 : Env) (a1 : Act) (w1 : World), μ x = n → I x → S.le S1 → Wle w w1 → Env.le ρ0 ρ1 → RepM S1 F ρ1 (MI x) w1 → RepG N S1 ρ1 a1 (frI x) →
      ∃ e a' w', (∃ x, absE e = some x ∧ AfterG N S F ρ0 w (Q x) a' w') ∧ ArrivesIn (Machine.fenced P (wideR rd)) P (lone (b.atR a1 (.code c :: .inLoop c :: k)) cs w1) b k cs e a' w' := by
    intro n
    induction n using Nat.strongRecOn with
    | _ n ih =>
      intro x S1 ρ1 a1 w1 hn hIx hS hw hρ hM1 hF1
      obtain ⟨e, a2, w2, ⟨ex, he, f, M', S2, ρ2, kk, k1, k2, k3, k4, k5⟩, harr⟩ := (h x hIx).out N S1 F ρ0 ρ1 a1 w1 (Nat.le_trans hN hw.size) (hC _ _ _ _ hS hc) h0 hρ hM1 hF1 b (.inLoop c :: k) cs hro hb hr
      cases e with
      | normal =>
        cases he
        obtain ⟨x', hsub, hIx', hlt⟩ := kk
        obtain ⟨S3, ρ3, j1, j2, j3, j4⟩ := hsub.g h0 k2 k3 k4
        obtain ⟨e3, a3, w3, hq, harr3⟩ := ih (μ x') (hn ▸ hlt) x' S3 ρ3 a2 w2 rfl hIx' (Store.le_trans hS (Store.le_trans k1 j1)) (hw.trans k5) j2 j3 j4
        exact ⟨e3, a3, w3, hq, .of_steps (StepsIn.trans harr (.one (fenced_calm hb hr rfl) stepR_inLoop)) harr3⟩
      | exit i => cases he; exact ⟨_, a2, w2, ⟨_, rfl, f, M', S2, ρ2, kk, Store.le_trans hS k1, k2, k3, k4, hw.trans k5⟩, .pass (x := .inLoop c) rfl (fun _ _ => .inl (by simp)) harr⟩
      | ret => cases he; exact ⟨_, a2, w2, ⟨_, rfl, f, M', S2, ρ2, kk, Store.le_trans hS k1, k2, k3, k4, hw.trans k5⟩, .pass (x := .inLoop c) rfl (fun _ _ => .inl (by simp)) harr⟩
      | goto l => cases he
      | panic l => cases he
      | outgrown => cases he
  obtain ⟨S1, ρ1, j1, j2, j3, j4⟩ := hs.g h0 h1 hM hF
  obtain ⟨e, a', w', hq, harr⟩ := key _ x0 S1 ρ1 a w rfl hi j1 (Wle.refl _) j2 j3 j4
  exact ⟨e, a', w', hq, .of_steps (.one (fenced_calm hb hr rfl) stepR_loop) harr⟩

theorem WPy.loopF (hT : TOkB P tt = true) (hC : ∀ S S' F ρ0, S.le S' → C S F ρ0 → C S' F ρ0) {c : Code} {fr : List AV} {M : Mem} {Q : APost} {X : Type _} (I : X → Prop) (us : X → List (Nat × AV)) (L : X → List (Nat × Blk)) (μ : X → Nat) (x0 : X) (hi : I x0)
    (h : forceN (modsC c []) fun ms => maskK fr 0 ms fun fr0 => Sub D fr M (setsF fr0 (us x0)) (Mem.ofL (L x0)) ∧
      ∀ x, I x → setsK fr0 (us x) fun fr1 => codeY P tt rd C D c fr1 (Mem.ofL (L x)) (loopPost D I (fun x => setsF fr0 (us x)) (fun x => Mem.ofL (L x)) μ x Q)) : WPy P rd C D (.loop c) fr M Q := by
  rw [forceN_eq] at h
  obtain ⟨fr0, h0, h⟩ := maskK_ex _ _ _ _ h
  refine WPy.loop hC I (fun x => setsF fr0 (us x)) (fun x => Mem.ofL (L x)) μ x0 hi h0 fun x hx => ?_
  have := h x hx
  rw [setsK_eq] at this
  exact codeY_ok hT hC _ _ _ _ this
end

/-! ### the world and what is known of it, turned -/
theorem RP.monoC {S S' : Store} (h : ∀ a v, S.cell a = some v → S'.cell a = some v) {v : Value} {u : AV} (hr : RP S v u) : RP S' v u := by
  induction hr with
  | top v => exact .top v
  | int k n => exact .int k n
  | bool b => exact .bool b
  | str s => exact .str s
  | nilsl => exact .nilsl
  | val v => exact .val v
  | sl d enc l base cap sz vals hcap ho hsz hb hn _ ih =>
    exact .sl d enc l base cap sz vals hcap ho hsz (fun i j hi hj => let ⟨ad, e, hc⟩ := hb i j hi hj; ⟨ad, e, h _ _ hc⟩) hn ih
  | slc d enc l base _ ih => exact .slc d enc l base ih
  | pd cells ad vals hb _ ih => exact .pd cells ad vals (fun j hj => h _ _ (hb j hj)) ih
  | fn f caps vs hs vals he _ ih => exact .fn f caps vs hs vals he ih
  | agg cs vs hs vals he _ ih => exact .agg cs vs hs vals he ih
  | tup cs vs hs vals he _ ih => exact .tup cs vs hs vals he ih
theorem RV.monoC {S S' : Store} {ρ : Env} (h : ∀ a v, S.cell a = some v → S'.cell a = some v) {v : Value} {u : AV} (hr : RV S ρ v u) : RV S' ρ v u := by
  induction hr with
  | p hp => exact .p (hp.monoC h)
  | ptr ℓ off b hb => exact .ptr ℓ off b hb
  | row ℓ n sz b hb hn hs hz => exact .row ℓ n sz b hb hn hs hz
  | rel ℓ i off b hb hi => exact .rel ℓ i off b hb hi
  | fn f caps vs hs vals he _ ih => exact .fn f caps vs hs vals he ih
  | agg cs vs hs vals he _ ih => exact .agg cs vs hs vals he ih
  | tup cs vs hs vals he _ ih => exact .tup cs vs hs vals he ih
theorem RVs.monoC {S S' : Store} {ρ : Env} (h : ∀ a v, S.cell a = some v → S'.cell a = some v) {vs : List Value} {us : List AV} (hr : RVs S ρ vs us) : RVs S' ρ vs us :=
  ⟨hr.1, fun i u hu => let ⟨v, e, hv⟩ := hr.2 i u hu; ⟨v, e, hv.monoC h⟩⟩
theorem RepM.swap {S S' F F' : Store} {ρ : Env} {M : Mem} {w w' : World} (hM : RepM S F ρ M w) (hc : ∀ a v, S.cell a = some v → S'.cell a = some v) (hs : S'.inW w') (hf : F'.inW w') (hd : ∀ b, S' b = none ∨ F' b = none)
    (hk : ∀ k, S k = none → F k = none → k < w.heap.size → w'.heap[k]? = w.heap[k]? ∧ S' k = none ∧ F' k = none) : RepM S' F' ρ M w' := by
  refine ⟨hs, hf, hd, hM.dom, fun ℓ B hB => ?_, hM.inj, fun g k l hg j n hn => hc _ _ (hM.gl g k l hg j n hn)⟩
  obtain ⟨b, hb, hr⟩ := hM.blk _ _ hB
  refine ⟨b, hb, ?_⟩
  have hlv : B.live b → w'.heap[b.blk]? = w.heap[b.blk]? ∧ S' b.blk = none ∧ F' b.blk = none := fun hl => hk _ (hr.off hl).1 (hr.off hl).2 (hr.lt hl)
  cases B with
  | box t cells =>
    obtain ⟨vs, h1, h2, h3, h4⟩ := hr
    obtain ⟨e1, e2, e3⟩ := hlv trivial
    exact ⟨vs, e1.trans h1, h2.monoC hc, e2, e3⟩
  | row t d enc l =>
    obtain ⟨h1, h2, h3⟩ := hr
    refine ⟨h1, h2, ?_⟩
    rcases h3 with h3 | ⟨h3, h4, vs, h5, h6, h7, h8, h9⟩
    · exact .inl h3
    · obtain ⟨e1, e2, e3⟩ := hlv h3
      exact .inr ⟨h3, h4, vs, e1.trans h5, h6, fun i a j u hi hu => let ⟨v, hv, hp⟩ := h7 i a j u hi hu; ⟨v, hv, hp.monoC hc⟩, e2, e3⟩
  | gone d enc l => exact ⟨hr.1, hr.2.monoC hc⟩
  | iter s pos =>
    obtain ⟨h1, h2, h3⟩ := hr
    obtain ⟨e1, e2, e3⟩ := hlv trivial
    exact ⟨e1.trans h1, e2, e3⟩
  | dead => trivial
def Store.upd (S : Store) (k : Nat) (o : Option Obj) : Store := fun x => if x = k then o else S x
theorem Store.upd_eq (S : Store) (k : Nat) (o : Option Obj) : S.upd k o k = o := by simp [Store.upd]
theorem Store.upd_ne (S : Store) {k x : Nat} (o : Option Obj) (h : x ≠ k) : S.upd k o x = S x := by simp [Store.upd, h]
def cellsO : Obj → Bool
  | .cells .. => true
  | _ => false
/-- a block that is no cells is turned -/
theorem wle_put {w : World} {k : Nat} {o o' : Obj} (h : w.heap[k]? = some o) (hc : cellsO o = false) (hc' : cellsO o' = false) : Wle w (w.putObj k o') := by
  have hk : k < w.heap.size := (Array.getElem?_eq_some_iff.1 h).1
  refine ⟨rfl, rfl, rfl, by simp, fun a => ?_⟩
  unfold World.frozen?
  by_cases e : a.block = k
  · rw [e, World.putObj_heap_same hk, h]
    have key : ∀ q : Obj, cellsO q = false → (match some q with | some (.cells _ _ (lo, hi)) => decide (lo ≤ a.off) && decide (a.off < hi) | _ => false) = false := by
      intro q hq
      cases q <;> first | rfl | (simp [cellsO] at hq; done)
    exact (key o' hc').trans (key o hc).symm
  · rw [World.putObj_heap_other e]
end Go.Proofs.YtgbicnldbhfhiaaDoor
