
/-
  What a call of pivot leaves, told anew; the tableau lent to its readers.
-/
import Derived.Test.YtgjmbmdaaahmkaaFxL
set_option linter.unusedVariables false
set_option linter.unusedSimpArgs false
namespace Go.Proofs.Ytgjmbmdaaahmkaa
set_option maxRecDepth 100000
set_option maxHeartbeats 32000000

theorem TabS.pv {n m : Nat} {t : Tab} {r s : Nat} (ht : TabS n m t) (hr : r < m) (hs : s < n) (hp : 0 < cl t r (s + 1)) (hpv : pvB m n t r s) : TabS n m (pvT m n t r s) := by
  have h1 := ht.cb r (s + 1) hr (by omega)
  unfold mostB at h1
  refine ⟨by simp [pvT, ht.bl], by simp [pvT, ht.fl], by simp [pvT], fun i hi => ?_, ⟨hp, h1.2⟩, fun i j hi hj => ?_⟩
  · unfold pvT; dsimp only; rw [getD_elem [] (by simpa using hi)]; simp
  · have e : cl (pvT m n t r s) i j = if i = r then (if j = s + 1 then t.den else - cl t r j) else pvN t r s i j := cl_mk hi hj
    rw [e]
    split
    · split
      · have := ht.dp; unfold mostB; omega
      · have := ht.cb r j hr hj; unfold mostB at *; omega
    · rename_i h; exact hpv i hi h j hj
theorem mat_tabN {n m : Nat} {t : Tab} {bad : Int} (p : Nat) (hp : 9000 ≤ p) : MatS (tabN n t m bad p [] [] (tabC t)) n m t bad (fun k => p + k) :=
  ⟨rfl, rfl, rfl, ⟨_, rfl, fun k _ => rfl⟩, fun k hk => tabN_row (a := []) rfl (foc0 hp) hk, fun k k' _ _ h => Nat.add_left_cancel h, fun k _ => .inr (by omega)⟩
theorem tab_conv1 {M : Mem} {n m : Nat} {t : Tab} {bad : Int} {lab : Nat → Nat} (hT : MatS M n m t bad lab) (hm : t.cel.length = m) : ∀ S F ρ w vs, RepM S F ρ M w → RVs S ρ vs [.ptr 7001 0] → RPs (lendS S ρ M w) vs [.pd (encTb n t bad)] := by
  intro S F ρ w vs hM hv
  obtain ⟨v, vs', rfl, h1, h2⟩ := hv.cons_inv
  rw [h2.nil_inv]
  exact RPs.cons (lend_tab hM hT hm h1) (RPs.nil _)
theorem tab_conv2 {M : Mem} {n m : Nat} {t : Tab} {bad r : Int} {lab : Nat → Nat} (hT : MatS M n m t bad lab) (hm : t.cel.length = m) : ∀ S F ρ w vs, RepM S F ρ M w → RVs S ρ vs [.ptr 7001 0, .int .i64 r] → RPs (lendS S ρ M w) vs [.pd (encTb n t bad), .int .i64 r] := by
  intro S F ρ w vs hM hv
  obtain ⟨v, vs', rfl, h1, h2⟩ := hv.cons_inv
  obtain ⟨v2, vs2, rfl, h3, h4⟩ := h2.cons_inv
  rw [h4.nil_inv, h3.int_inv]
  exact RPs.cons (lend_tab hM hT hm h1) (RPs.cons (.int _ _) (RPs.nil _))
/-- the tableau's rows by new labels, the labels that pivot took dead -/
def pbR (m : Nat) (c : Nat → List Int) : Mem := fun x => match Nat.ble 20000 x && Nat.blt x (20000 + m) with
  | true => some .dead
  | false => rowsN 3 (sgF 30000 m []) c x
def pbP (m : Nat) (lab : Nat → Nat) (x : Nat) : Option Nat := match Nat.ble 20000 x && Nat.blt x (20000 + m) with
  | true => some (x - 11000)
  | false => (sgF 30000 m [] x).map lab
theorem pb_in {m x : Nat} : (Nat.ble 20000 x && Nat.blt x (20000 + m)) = true ↔ 20000 ≤ x ∧ x < 20000 + m := by
  rw [Bool.and_eq_true, Nat.ble_eq]
  simp only [Nat.blt, Nat.ble_eq]
  omega
theorem lm4_none {x : Nat} (h : 7005 ≤ x) : lmFind lm4 x = none := lowM_key rfl h
theorem pb_retell {n m : Nat} {t : Tab} {bad : Int} {lab : Nat → Nat} {M' : Mem} (hT : MatS M' n m t bad lab) (hh : hasM M' m) (hm : m ≤ 10000) : Retell (famF lm4 (pbP m lab)) M' (overM (tabG n t m bad 30000 []) (pbR m (tabC t))) := by
  have hbig : ∀ {x o}, pbP m lab x = some o → 20000 ≤ x ∧ ((x < 20000 + m ∧ o = x - 11000 ∧ pbR m (tabC t) x = some .dead) ∨ (30000 ≤ x ∧ x < 30000 + m ∧ o = lab (x - 30000) ∧ pbR m (tabC t) x = some (.row 3 0 encI (tabC t (x - 30000))))) := by
    intro x o hx
    unfold pbP at hx
    unfold pbR
    cases hb : (Nat.ble 20000 x && Nat.blt x (20000 + m)) with
    | true =>
      rw [hb] at hx
      have := pb_in.1 hb
      cases hx
      exact ⟨this.1, .inl ⟨this.2, rfl, rfl⟩⟩
    | false =>
      rw [hb] at hx
      dsimp only at hx ⊢
      cases hs : sgF 30000 m [] x with
      | none => rw [hs] at hx; cases hx
      | some k =>
        rw [hs] at hx
        obtain ⟨h1, h2⟩ := sgF_some (a := []) trivial hs
        have h2 : 30000 + k = x := h2
        cases hx
        unfold rowsN
        rw [hs]
        have e : x - 30000 = k := by omega
        rw [e]
        exact ⟨by omega, .inr ⟨by omega, by omega, rfl, rfl⟩⟩
  have hN : ∀ {x B'}, pbR m (tabC t) x = some B' → ∃ o, pbP m lab x = some o := by
    intro x B' hB
    unfold pbR at hB
    unfold pbP
    cases hb : (Nat.ble 20000 x && Nat.blt x (20000 + m)) with
    | true => exact ⟨_, rfl⟩
    | false =>
      rw [hb] at hB
      dsimp only at hB ⊢
      unfold rowsN at hB
      cases hs : sgF 30000 m [] x with
      | none => rw [hs] at hB; cases hB
      | some k => exact ⟨_, rfl⟩
  refine retell_fam lm4 (tabG n t m bad 30000 []) (pbR m (tabC t)) (pbP m lab) 400 rfl ⟨?_, ?_, ?_, trivial, trivial⟩ (fun ℓ t0 g m' hmem => ?_) ⟨fun x B' hB => ?_, fun x o hx => ?_, fun x y o hx hy h1 h2 => ?_, fun x o k hx h1 hk => ?_⟩
  · show blkR lm4 400 (M' 7001) _
    rw [hT.box]
    repeat' (first | exact True.intro | exact rfl | (refine And.intro ?_ ?_) | ((conv => whnf); omega) | ((conv => whnf); simp only [List.length_append, List.length_cons, List.length_nil]; done) | ((conv => whnf); simp only [List.length_append, List.length_cons, List.length_nil]; omega))
  · show blkR lm4 400 (M' 7002) _
    rw [hT.bas]
    repeat' (first | exact True.intro | exact rfl | (refine And.intro ?_ ?_) | ((conv => whnf); omega) | ((conv => whnf); simp only [List.length_append, List.length_cons, List.length_nil]; done) | ((conv => whnf); simp only [List.length_append, List.length_cons, List.length_nil]; omega))
  · show blkR lm4 400 (M' 7003) _
    rw [hT.fre]
    repeat' (first | exact True.intro | exact rfl | (refine And.intro ?_ ?_) | ((conv => whnf); omega) | ((conv => whnf); simp only [List.length_append, List.length_cons, List.length_nil]; done) | ((conv => whnf); simp only [List.length_append, List.length_cons, List.length_nil]; omega))
  · unfold tabG at hmem
    simp only [List.mem_cons, Prod.mk.injEq, List.not_mem_nil, or_false] at hmem
    rcases hmem with ⟨_, h⟩ | ⟨_, h⟩ | ⟨_, h⟩ | ⟨rfl, h⟩
    · cases h
    · cases h
    · cases h
    · injection h with h1 h2 h3
      subst h1 h2
      have h3' := h3.symm
      subst h3'
      obtain ⟨g0, g1, g2⟩ := hT.hdr
      refine ⟨g0, g1, fun i hi => ?_⟩
      rw [g2 i hi]
      refine TellL.one (TellA.row (famF_ψ (lm4_none (by show 7005 ≤ 30000 + i; omega)) ?_))
      show pbP m lab (30000 + i) = some (lab i)
      unfold pbP
      have hb : (Nat.ble 20000 (30000 + i) && Nat.blt (30000 + i) (20000 + m)) = false := by
        cases hb : (Nat.ble 20000 (30000 + i) && Nat.blt (30000 + i) (20000 + m)) with
        | false => rfl
        | true => have := pb_in.1 hb; omega
      rw [hb]
      dsimp only
      have := sgF_lb (p := 30000) (m := m) (a := []) trivial hi
      rw [show lbF 30000 [] i = 30000 + i from rfl] at this
      rw [this]
      rfl
  · obtain ⟨o, ho⟩ := hN hB
    obtain ⟨h1, h2⟩ := hbig ho
    refine ⟨lm4_none (by omega), lowL_far (L := tabG n t m bad 30000 []) rfl (by omega), o, ?_⟩
    rcases h2 with ⟨h3, rfl, h4⟩ | ⟨h3, h4, rfl, h5⟩
    · rw [h4] at hB
      cases hB
      refine ⟨.dead, ho, ?_, .inl rfl⟩
      have := hh.2.2.2.2 (x - 20000) (by omega)
      rw [show 9000 + (x - 20000) = x - 11000 by omega] at this
      exact this
    · rw [h5] at hB
      cases hB
      exact ⟨_, ho, hT.row _ (by omega), .inr ⟨rfl, rfl⟩⟩
  · obtain ⟨_, h2⟩ := hbig hx
    rcases h2 with ⟨_, _, h4⟩ | ⟨_, _, _, h4⟩ <;> rw [h4] <;> simp
  · obtain ⟨_, hx2⟩ := hbig hx
    obtain ⟨_, hy2⟩ := hbig hy
    rcases hx2 with ⟨_, _, h4⟩ | ⟨a1, a2, a3, _⟩
    · exact absurd h4 h1
    rcases hy2 with ⟨_, _, h4⟩ | ⟨b1, b2, b3, _⟩
    · exact absurd h4 h2
    have := hT.inj (x - 30000) (y - 30000) (by omega) (by omega) (a3.symm.trans b3)
    omega
  · obtain ⟨_, hx2⟩ := hbig hx
    rcases hx2 with ⟨_, _, h4⟩ | ⟨a1, a2, a3, _⟩
    · exact absurd h4 h1
    have hf := hT.far (x - 30000) (by omega)
    have := lowM_old (lm := lm4) rfl hk
    have hk2 : 7001 ≤ o := by
      have hmem := lmFind_mem hk
      unfold lm4 at hmem
      simp only [List.mem_cons, Prod.mk.injEq, List.not_mem_nil, or_false, LM.old.injEq] at hmem
      omega
    omega
end Go.Proofs.Ytgjmbmdaaahmkaa
