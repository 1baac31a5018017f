
/-
  Contract: the tableau solved, by the program.
-/
import Derived.Test.YtgjmbmdaaahmkaaFxM
set_option linter.unusedVariables false
set_option linter.unusedSimpArgs false
namespace Go.Proofs.Ytgjmbmdaaahmkaa
set_option maxRecDepth 100000
set_option maxHeartbeats 32000000

theorem sol_mat {n m : Nat} {t0 t : Tab} {b0 bad : Int} {M : Mem} (hm : m ≤ 10000) (hT : MatS M n m t bad (fun k => 20000 + k)) (h0 : ∀ k, k < m → M (9000 + k) = none) :
    (∀ x, tabN n t0 m b0 9000 [] [] (tabC t0) x ≠ none → x ∉ [7001, 7002, 7003, 7004] → M x = none) ∧ hasM (deadM (tabN n t0 m b0 9000 [] [] (tabC t0)) [7001, 7002, 7003, 7004] M) m ∧ MatS (deadM (tabN n t0 m b0 9000 [] [] (tabC t0)) [7001, 7002, 7003, 7004] M) n m t bad (fun k => 20000 + k) := by
  obtain ⟨e1, e2⟩ := piv_end (n := n) (t := t0) (bad := b0) hm h0 (by rw [hT.box]; simp) (by rw [hT.bas]; simp) (by rw [hT.fre]; simp) (by obtain ⟨g, h, _⟩ := hT.hdr; rw [h]; simp)
  have hd : ∀ x, x ∈ [7001, 7002, 7003, 7004] → deadM (tabN n t0 m b0 9000 [] [] (tabC t0)) [7001, 7002, 7003, 7004] M x = M x := fun x h => deadM_in h
  have hnew : ∀ k, k < m → deadM (tabN n t0 m b0 9000 [] [] (tabC t0)) [7001, 7002, 7003, 7004] M (20000 + k) = M (20000 + k) := by
    intro k hk
    refine deadM_new ?_
    cases h : tabN n t0 m b0 9000 [] [] (tabC t0) (20000 + k) with
    | none => rfl
    | some B =>
      rcases tabN_dom (by rw [h]; simp) with h2 | ⟨k', hk', e⟩
      · simp only [List.mem_cons, List.not_mem_nil, or_false] at h2; omega
      · omega
  refine ⟨e1, e2, ⟨?_, ?_, ?_, ?_, fun k hk => ?_, hT.inj, hT.far⟩⟩
  · rw [hd _ (by simp)]; exact hT.box
  · rw [hd _ (by simp)]; exact hT.bas
  · rw [hd _ (by simp)]; exact hT.fre
  · obtain ⟨g, g1, g2⟩ := hT.hdr
    exact ⟨g, by rw [hd _ (by simp)]; exact g1, g2⟩
  · rw [hnew k hk]; exact hT.row k hk
def solA (n m : Nat) (t : Tab) (u : AV) (M' : Mem) : Prop :=
  (∃ t' bad', slT m n 5000 t = some (t', bad') ∧ u = .bool true ∧ TabS n m t' ∧ hasM M' m ∧ MatS M' n m t' bad' (fun k => 20000 + k)) ∨ (slT m n 5000 t = none ∧ u = .bool false ∧ hasM M' m)
theorem tab_re0 {n m : Nat} {t : Tab} {bad : Int} (p q : Nat) (hp : 9000 ≤ p) (hq : 9000 ≤ q) : Retell (famF (lm4 ++ []) fun x => (sgF q m [] x).map (lbF p [])) (tabN n t m bad p [] [] (tabC t)) (tabN n t m bad q [] [] (tabC t)) :=
  tab_retell (M := tabN n t m bad p [] [] (tabC t)) [] (lbF p []) (foc0 hq) rfl rfl trivial rfl (auto_) ⟨_, rfl, fun k _ => rfl⟩ (fun k hk => tabN_row rfl (foc0 hp) hk) (fun k k' h h' e => lbF_inj (foc0 (p := p) hp).1 h h' e)
    (fun k hk y hy => by have := lowM_old (lm := lm4 ++ []) rfl hy; have := (foc0 (p := p) (m := m) hp).big k; omega)
theorem pb_b3 {m : Nat} {lab : Nat → Nat} {x ℓ : Nat} (hm : m ≤ 10000) (hx : famF (lm4 ++ []) (fun x => (sgF 9000 m [] x).map (lbF 20000 [])) x = some (.old ℓ)) : (x = ℓ ∧ (x = 7001 ∨ x = 7002 ∨ x = 7003 ∨ x = 7004)) ∨ ∃ k, k < m ∧ x = 9000 + k ∧ ℓ = 20000 + k := by
  unfold famF at hx
  cases hf : lmFind (lm4 ++ []) x with
  | some y =>
    rw [hf] at hx
    cases hx
    have hmem := lmFind_mem hf
    rw [List.append_nil] at hmem
    unfold lm4 at hmem
    simp only [List.mem_cons, Prod.mk.injEq, List.not_mem_nil, or_false, LM.old.injEq] at hmem
    left
    omega
  | none =>
    rw [hf] at hx
    dsimp only at hx
    cases hs : sgF 9000 m [] x with
    | none => rw [hs] at hx; cases hx
    | some k =>
      rw [hs] at hx
      cases hx
      obtain ⟨h1, h2⟩ := sgF_some (a := []) trivial hs
      exact .inr ⟨k, h1, h2.symm, rfl⟩
theorem f1_old {m : Nat} {k : Nat} (hk : k < m) : famF (lm4 ++ []) (fun x => (sgF 9000 m [] x).map (lbF 20000 [])) (9000 + k) = some (.old (20000 + k)) := by
  refine famF_ψ (by rw [List.append_nil]; exact lm4_none (by omega)) ?_
  have := sgF_lb (p := 9000) (m := m) (a := []) trivial hk
  rw [show lbF 9000 [] k = 9000 + k from rfl] at this
  show Option.map (lbF 20000 []) (sgF 9000 m [] (9000 + k)) = _
  rw [this]
  rfl
theorem pbP_d {m k : Nat} {lab : Nat → Nat} (hk : k < m) : pbP m lab (20000 + k) = some (9000 + k) := by
  unfold pbP
  rw [pb_in.2 (by omega)]
  show some (20000 + k - 11000) = _
  congr 1
  omega
theorem pb_old {m x ℓ : Nat} {ψ : Nat → Option Nat} (hm : m ≤ 10000) (hψ : ∀ k, k < m → ψ (20000 + k) = some (9000 + k)) (hx : famF (lm4 ++ []) (fun x => (sgF 9000 m [] x).map (lbF 20000 [])) x = some (.old ℓ)) : famF lm4 ψ ℓ = some (.old x) := by
  rcases pb_b3 (lab := id) hm hx with ⟨rfl, h⟩ | ⟨k, hk, rfl, rfl⟩
  · rcases h with rfl | rfl | rfl | rfl <;> rfl
  · exact famF_ψ (lm4_none (by omega)) (hψ k hk)
theorem tabN_out {n m : Nat} {t : Tab} {bad : Int} {k : Nat} (hm : m ≤ 10000) : tabN n t m bad 20000 [] [] (tabC t) (30000 + k) = none := by
  cases h : tabN n t m bad 20000 [] [] (tabC t) (30000 + k) with
  | none => rfl
  | some B =>
    rcases tabN_dom (by rw [h]; simp) with h2 | ⟨k', hk', e⟩
    · simp only [List.mem_cons, List.not_mem_nil, or_false] at h2; omega
    · omega
theorem pb_new {n m : Nat} {t : Tab} {bad : Int} {lab : Nat → Nat} {ℓ : Nat} {y : LM} (hm : m ≤ 10000) (hy : famF lm4 (pbP m lab) ℓ = some y) :
    (∃ x, famF (lm4 ++ []) (fun x => (sgF 9000 m [] x).map (lbF 20000 [])) x = some (.old ℓ)) ∨ tabN n t m bad 20000 [] [] (tabC t) ℓ = none := by
  unfold famF at hy
  cases hf : lmFind lm4 ℓ with
  | some z =>
    have hmem := lmFind_mem hf
    unfold lm4 at hmem
    simp only [List.mem_cons, Prod.mk.injEq, List.not_mem_nil, or_false] at hmem
    left
    rcases hmem with ⟨rfl, _⟩ | ⟨rfl, _⟩ | ⟨rfl, _⟩ | ⟨rfl, _⟩
    · exact ⟨7001, rfl⟩
    · exact ⟨7002, rfl⟩
    · exact ⟨7003, rfl⟩
    · exact ⟨7004, rfl⟩
  | none =>
    rw [hf] at hy
    dsimp only at hy
    unfold pbP at hy
    cases hb : (Nat.ble 20000 ℓ && Nat.blt ℓ (20000 + m)) with
    | true =>
      have := pb_in.1 hb
      refine .inl ⟨9000 + (ℓ - 20000), ?_⟩
      rw [f1_old (show ℓ - 20000 < m by omega)]
      congr 2
      omega
    | false =>
      rw [hb] at hy
      dsimp only at hy
      cases hs : sgF 30000 m [] ℓ with
      | none => rw [hs] at hy; cases hy
      | some k =>
        obtain ⟨h1, h2⟩ := sgF_some (a := []) trivial hs
        have h2 : 30000 + k = ℓ := h2
        subst h2
        exact .inr (tabN_out hm)
theorem pb_row {n m : Nat} {t : Tab} {bad : Int} {c : Nat → List Int} {k : Nat} (hm : m ≤ 10000) (hk : k < m) : overM (tabG n t m bad 30000 []) (pbR m c) (30000 + k) = some (.row 3 0 encI (c k)) := by
  unfold overM
  rw [lowL_far (L := tabG n t m bad 30000 []) rfl (by omega)]
  dsimp only
  unfold pbR
  have hb : (Nat.ble 20000 (30000 + k) && Nat.blt (30000 + k) (20000 + m)) = false := by
    cases hb : (Nat.ble 20000 (30000 + k) && Nat.blt (30000 + k) (20000 + m)) with
    | false => rfl
    | true => have := pb_in.1 hb; omega
  rw [hb]
  dsimp only
  unfold rowsN
  have := sgF_lb (p := 30000) (m := m) (a := []) trivial hk
  rw [show lbF 30000 [] k = 30000 + k from rfl] at this
  rw [this]
theorem pb_sub {n m : Nat} {t t1 : Tab} {bad b1 : Int} {fr fr' : List AV} (hm : m ≤ 10000) (hf : avRs (lm4 ++ []) 400 fr fr') :
    Sub [7001, 7002, 7003, 7004] fr (overN (overM (tabG n t m bad 30000 []) (pbR m (tabC t))) (tabN n t1 m b1 20000 [] [] (tabC t1))) fr' (tabN n t m bad 20000 [] [] (tabC t)) := by
  refine tab_sub (lmE := []) (lm4 ++ []) (fun k => 30000 + k) (foc0 (by decide)) rfl rfl trivial rfl (auto_) ⟨_, rfl, fun k _ => rfl⟩ (fun k hk => ?_) (fun k k' _ _ h => Nat.add_left_cancel h) (fun k hk y hy => ?_) (fun d hd => ?_) (fun k y h => famF_lm k y h) hf
  · unfold overN
    rw [pb_row hm hk]
  · have h5 := lowM_old (lm := lm4 ++ []) rfl hy
    omega
  · simp only [List.mem_cons, List.not_mem_nil, or_false] at hd
    rcases hd with rfl | rfl | rfl | rfl <;> rfl
def dbR (m : Nat) : Mem := fun x => match Nat.ble 20000 x && Nat.blt x (20000 + m) with
  | true => some .dead
  | false => none
def dbP (m : Nat) (x : Nat) : Option Nat := match Nat.ble 20000 x && Nat.blt x (20000 + m) with
  | true => some (x - 11000)
  | false => none
def dbL : List (Nat × Blk) := [(7001, .dead), (7002, .dead), (7003, .dead), (7004, .dead)]
theorem blkR_dead {lm : LMap} {n : Nat} {x : Option Blk} (h : x ≠ none) : blkR lm n x .dead := by
  cases x with
  | none => exact absurd rfl h
  | some B => cases B <;> trivial
theorem db_dead {m x o : Nat} (h : dbP m x = some o) : 20000 ≤ x ∧ x < 20000 + m ∧ o = x - 11000 ∧ dbR m x = some .dead := by
  unfold dbP at h
  unfold dbR
  cases hb : (Nat.ble 20000 x && Nat.blt x (20000 + m)) with
  | true =>
    rw [hb] at h
    cases h
    have := pb_in.1 hb
    exact ⟨this.1, this.2, rfl, rfl⟩
  | false => rw [hb] at h; cases h
theorem db_retell {m : Nat} {M' : Mem} (hh : hasM M' m) : Retell (famF lm4 (dbP m)) M' (overM dbL (dbR m)) := by
  obtain ⟨h1, h2, h3, h4, h5⟩ := hh
  refine retell_fam lm4 dbL (dbR m) (dbP m) 400 rfl ⟨blkR_dead h1, blkR_dead h2, blkR_dead h3, blkR_dead h4, trivial⟩ (fun ℓ t0 g m' hmem => ?_) ⟨fun x B' hB => ?_, fun x o hx => ?_, fun x y o hx hy g1 g2 => ?_, fun x o k hx g1 hk => ?_⟩
  · unfold dbL at hmem
    simp only [List.mem_cons, Prod.mk.injEq, List.not_mem_nil, or_false] at hmem
    rcases hmem with ⟨_, h⟩ | ⟨_, h⟩ | ⟨_, h⟩ | ⟨_, h⟩ <;> cases h
  · unfold dbR at hB
    cases hb : (Nat.ble 20000 x && Nat.blt x (20000 + m)) with
    | false => rw [hb] at hB; cases hB
    | true =>
      rw [hb] at hB
      cases hB
      have hi := pb_in.1 hb
      refine ⟨lm4_none (by omega), lowL_far (L := dbL) rfl (by omega), x - 11000, .dead, ?_, ?_, .inl rfl⟩
      · unfold dbP; rw [hb]
      · have := h5 (x - 20000) (by omega)
        rw [show 9000 + (x - 20000) = x - 11000 by omega] at this
        exact this
  · rw [(db_dead hx).2.2.2]; simp
  · exact absurd (db_dead hx).2.2.2 g1
  · exact absurd (db_dead hx).2.2.2 g1
theorem dbP_d {m k : Nat} (hk : k < m) : dbP m (20000 + k) = some (9000 + k) := by
  unfold dbP
  rw [pb_in.2 (by omega)]
  show some (20000 + k - 11000) = _
  congr 1
  omega
theorem db_new {m : Nat} {M : Mem} {ℓ : Nat} {y : LM} (hy : famF lm4 (dbP m) ℓ = some y) :
    (∃ x, famF (lm4 ++ []) (fun x => (sgF 9000 m [] x).map (lbF 20000 [])) x = some (.old ℓ)) ∨ M ℓ = none := by
  unfold famF at hy
  left
  cases hf : lmFind lm4 ℓ with
  | some z =>
    have hmem := lmFind_mem hf
    unfold lm4 at hmem
    simp only [List.mem_cons, Prod.mk.injEq, List.not_mem_nil, or_false] at hmem
    rcases hmem with ⟨rfl, _⟩ | ⟨rfl, _⟩ | ⟨rfl, _⟩ | ⟨rfl, _⟩
    · exact ⟨7001, rfl⟩
    · exact ⟨7002, rfl⟩
    · exact ⟨7003, rfl⟩
    · exact ⟨7004, rfl⟩
  | none =>
    rw [hf] at hy
    dsimp only at hy
    cases hd : dbP m ℓ with
    | none => rw [hd] at hy; cases hy
    | some o =>
      have hi := db_dead hd
      refine ⟨9000 + (ℓ - 20000), ?_⟩
      rw [f1_old (show ℓ - 20000 < m by omega)]
      congr 2
      omega
theorem db_end {n m : Nat} {t t1 : Tab} {b1 : Int} (hm : m ≤ 10000) : (∀ x, tabN n t m (-1) 9000 [] [] (tabC t) x ≠ none → x ∉ [7001, 7002, 7003, 7004] → overN (overM dbL (dbR m)) (tabN n t1 m b1 20000 [] [] (tabC t1)) x = none) ∧
    hasM (deadM (tabN n t m (-1) 9000 [] [] (tabC t)) [7001, 7002, 7003, 7004] (overN (overM dbL (dbR m)) (tabN n t1 m b1 20000 [] [] (tabC t1)))) m := by
  refine piv_end hm (fun k hk => ?_) (fun h => by cases (show some Blk.dead = none from h)) (fun h => by cases (show some Blk.dead = none from h)) (fun h => by cases (show some Blk.dead = none from h)) (fun h => by cases (show some Blk.dead = none from h))
  unfold overN
  have e : overM dbL (dbR m) (9000 + k) = none := by
    unfold overM
    rw [lowL_far (L := dbL) rfl (by omega)]
    dsimp only
    cases h : dbR m (9000 + k) with
    | none => rfl
    | some B =>
      unfold dbR at h
      cases hb : (Nat.ble 20000 (9000 + k) && Nat.blt (9000 + k) (20000 + m)) with
      | false => rw [hb] at h; cases h
      | true => have := pb_in.1 hb; omega
  rw [e]
  exact tabN_free rfl (by omega) (by omega) rfl
theorem solveF (n m : Nat) (t : Tab) (ht : TabS n m t) (hn : n ≤ 1000) (hm : m ≤ 10000) :
    Spec Try.prog 27 [.ptr 7001 0] (tabN n t m (-1) 9000 [] [] (tabC t)) (fun u M' => solA n m t u M') := by
  refine Spec.introG (args' := [.ptr 7001 0]) (M1 := tabN n t m (-1) 20000 [] [] (tabC t)) tt_ok mx_ok (famF (lm4 ++ []) fun x => (sgF 20000 m [] x).map (lbF 9000 [])) [7001, 7002, 7003, 7004]
    (tab_re0 9000 20000 (by decide) (by decide))
    (fun d hd => famF_lm d _ (by
      simp only [List.mem_cons, List.not_mem_nil, or_false] at hd
      rcases hd with rfl | rfl | rfl | rfl <;> rfl))
    (TellL.by_ (lm := lm4) 400 famF_lm (auto_)) Try.func27 rfl (by decide) ?_
  conv => whnf
  refine WPc.loopM tt_ok mx_ok (fun x : Nat × Tab => x.1 ≤ 5000 ∧ TabS n m x.2 ∧ slT m n (5000 - x.1) x.2 = slT m n 5000 t) (fun x => [(5, .int .i64 (x.1 : Int))]) (fun x => tabN n x.2 m (-1) 20000 [] [] (tabC x.2)) (fun x => 5000 - x.1) (0, t) ⟨Nat.zero_le _, ht, rfl⟩ ?_
  conv => whnf
  refine ⟨?_, ?_⟩
  · show Sub _ _ _ _ _
    exact tab_go (foc0 (by decide)) (foc0 (by decide)) [] (fun q hq => by cases hq) (auto_)
  rintro ⟨k, t1⟩ ⟨hk, hs1, hsl⟩
  dsimp only at hk hs1 hsl
  have hfree : ∀ k, k < m → tabN n t1 m (-1) 20000 [] [] (tabC t1) (9000 + k) = none := fun k hk => tabN_free rfl (by omega) (by omega) rfl
  refine codeFR ?_
  conv => whnf
  by_cases hlt : k < 5000
  · refine cmpT (by omega) ?_
    conv => whnf
    have hstep : slT m n (5000 - k) t1 = if lvK t1 m < 0 then some (t1, -1)
      else if enK t1 (lvK t1 m).toNat n < 0 then some (t1, lvK t1 m)
      else if pvB m n t1 (lvK t1 m).toNat (enK t1 (lvK t1 m).toNat n).toNat then slT m n (4999 - k) (pvT m n t1 (lvK t1 m).toNat (enK t1 (lvK t1 m).toNat n).toNat)
      else none := by
      rw [show 5000 - k = (4999 - k) + 1 by omega]
      rfl
    rw [hsl] at hstep
    refine Spec.borrowG (leavingF n m t1 (-1) hs1 (by omega) (by omega)) (tab_conv1 (mat_tabN 20000 (by decide)) hs1.cm) (fun u hu => by rw [hu]; rfl) ?_
    rintro u rfl
    conv => whnf
    refine cmpI (fun h1 => ?_) (fun h1 => ?_) <;> conv => whnf
    · rw [if_pos h1] at hstep
      have e := sol_mat (t0 := t) (b0 := -1) hm (mat_tabN (n := n) (m := m) (t := t1) (bad := -1) 20000 (by decide)) hfree
      exact ⟨e.1, .inl ⟨t1, -1, hstep, rfl, hs1, e.2.1, e.2.2⟩⟩
    · rw [if_neg h1] at hstep
      have hrng := lvK_rng t1 m
      refine Spec.borrowG (enteringF n m t1 (-1) (lvK t1 m) hs1 (by omega) (by omega) (by omega)) (tab_conv2 (mat_tabN 20000 (by decide)) hs1.cm) (fun u hu => by rw [hu]; rfl) ?_
      rintro u rfl
      conv => whnf
      refine cmpI (fun h2 => ?_) (fun h2 => ?_) <;> conv => whnf
      · rw [if_pos h2] at hstep
        have hT : MatS ((tabN n t1 m (-1) 20000 [] [] (tabC t1)).set 7001 (.box 77 [.int .i64 n, .int .i64 t1.den, .row 7002 t1.bas.length 1, .row 7003 t1.fre.length 1, .row 7004 m 1, .int .i64 (lvK t1 m)])) n m t1 (lvK t1 m) (fun k => 20000 + k) :=
          ⟨rfl, rfl, rfl, ⟨_, rfl, fun k _ => rfl⟩, fun k hk => by
            rw [Mem.set_ne _ _ (by omega)]
            exact tabN_row (a := []) rfl (foc0 (by decide)) hk, fun k k' _ _ h => Nat.add_left_cancel h, fun k _ => .inr (by omega)⟩
        have e := sol_mat (t0 := t) (b0 := -1) hm hT (fun k hk => by
          rw [Mem.set_ne _ _ (by omega)]
          exact hfree k hk)
        exact ⟨e.1, .inl ⟨t1, lvK t1 m, hstep, rfl, hs1, e.2.1, e.2.2⟩⟩
      · rw [if_neg h2] at hstep
        have hrng2 := enK_rng t1 (lvK t1 m).toNat n
        have hpos := enK_pos t1 (lvK t1 m).toNat n (by omega)
        have pv := pivotF n m t1 (-1) (lvK t1 m).toNat (enK t1 (lvK t1 m).toNat n).toNat hs1 hn hm (by omega) (by omega) (by omega)
        rw [Int.toNat_of_nonneg (show 0 ≤ lvK t1 m by omega), Int.toNat_of_nonneg (show 0 ≤ enK t1 (lvK t1 m).toNat n by omega)] at pv
        refine Spec.callG _ (tabN n t1 m (-1) 9000 [] [] (tabC t1)) (tab_re0 20000 9000 (by decide) (by decide)) (TellL.by_ (lm := lm4) 400 famF_lm (auto_)) pv ?_
        rintro u M' (⟨hpv, rfl, hh, lab, hT, hlab⟩ | ⟨hpv, rfl, hh⟩)
        · rw [if_pos hpv] at hstep
          have hs2 := hs1.pv (by omega) (by omega) hpos hpv
          generalize pvT m n t1 (lvK t1 m).toNat (enK t1 (lvK t1 m).toNat n).toNat = t2 at hstep hT hs2
          refine ⟨famF lm4 (pbP m lab), overM (tabG n t2 m (-1) 30000 []) (pbR m (tabC t2)), .bool true, pb_retell hT hh hm, fun x ℓ hx => pb_old hm (fun k hk => pbP_d hk) hx, fun ℓ y hy => pb_new hm hy, fun S ρ v h => ((avR_ok 400).1 (.bool true) (.bool true) v rfl h).mono (Store.le_refl _) (envG_le (lm := []) (fun k y h => by cases h)), ?_⟩
          conv => whnf
          refine arI trivial (by omega) ?_
          conv => whnf
          refine ⟨(k + 1, t2), pb_sub hm (auto_), ⟨by dsimp only; omega, hs2, ?_⟩, by dsimp only; omega⟩
          dsimp only
          rw [hstep]
          congr 1
          omega
        · rw [if_neg hpv] at hstep
          refine ⟨famF lm4 (dbP m), overM dbL (dbR m), .bool false, db_retell hh, fun x ℓ hx => pb_old hm (fun k hk => dbP_d hk) hx, fun ℓ y hy => db_new hy, fun S ρ v h => ((avR_ok 400).1 (.bool false) (.bool false) v rfl h).mono (Store.le_refl _) (envG_le (lm := []) (fun k y h => by cases h)), ?_⟩
          conv => whnf
          have e := db_end (n := n) (t := t) (t1 := t1) (b1 := -1) hm
          exact ⟨e.1, .inr ⟨hstep, rfl, e.2⟩⟩
  · refine cmpF (by omega) ?_
    conv => whnf
    have e0 : 5000 - k = 0 := by omega
    rw [e0] at hsl
    have hnone : slT m n 5000 t = none := hsl.symm
    have e := sol_mat (t0 := t) (b0 := -1) hm (mat_tabN (n := n) (m := m) (t := t1) (bad := -1) 20000 (by decide)) hfree
    exact ⟨e.1, .inr ⟨hnone, rfl, e.2.1⟩⟩
end Go.Proofs.Ytgjmbmdaaahmkaa
