
/-
  The tableau made and solved beside the brancher's memory: what is told anew; what a branch leaves, plainly.
-/
import Derived.Test.YtgjmbmdaaahmkaaFxR
set_option linter.unusedVariables false
set_option linter.unusedSimpArgs false
namespace Go.Proofs.Ytgjmbmdaaahmkaa
set_option maxRecDepth 100000
set_option maxHeartbeats 32000000

/-! ### the rest of a branch, plainly -/
def tlB (n k : Nat) (c : Br) (i : Nat) : Br :=
  if someC c.rows then c
  else if ¬ newB c.rows then c.give
  else match slT c.rows.length n 5000 (newT n c.rows) with
    | none => c.give
    | some (t, bad) =>
      if 0 ≤ bad then
        match fkD n t bad.toNat with
        | none => c.give
        | some d => (addB n i c d).1
      else if (frK n t c.rows.length).1 < 0 then (if pntB (ptK n t c.rows.length) then { c with point := some (ptK n t c.rows.length) } else c.give)
      else spB n k c i (frK n t c.rows.length).1 (frK n t c.rows.length).2
theorem brB_tl (n k : Nat) (b : Br) (i : Nat) : brB n (k + 1) b i = if (if i = 0 then shK n b b.rows.length else (b, true)).2 = false then (if i = 0 then shK n b b.rows.length else (b, true)).1 else tlB n k (if i = 0 then shK n b b.rows.length else (b, true)).1 i := by
  rw [brB]
  rfl
theorem brB_one {n k : Nat} {b : Br} {i : Nat} (h : i ≠ 0) : brB n (k + 1) b i = tlB n k b i := by
  rw [brB_tl, if_neg h, if_neg (by simp)]
theorem TabOk.s {m n : Nat} {rows : List Row} {t : Tab} (h : TabOk m n rows t) : TabS n m t := ⟨h.bl, h.fl, h.cm, h.cn, h.dp, h.cb⟩
theorem TabOk.b {m n : Nat} {rows : List Row} {t : Tab} (h : TabOk m n rows t) : TabB m t := ⟨h.dp, fun i hi => h.cb i 0 hi (by omega)⟩
theorem TabOk.bs {m n : Nat} {rows : List Row} {t : Tab} (h : TabOk m n rows t) : ∀ i, i < m → 0 ≤ t.bas.getD i 0 ∧ t.bas.getD i 0 < (n + m : Nat) := fun i hi => bas_rng h _ (List.mem_append_left _ (memD (l := t.bas) 0 (by rw [h.bl]; exact hi)))
theorem TabOk.fs {m n : Nat} {rows : List Row} {t : Tab} (h : TabOk m n rows t) : ∀ i, i < n → 0 ≤ t.fre.getD i 0 ∧ t.fre.getD i 0 < (n + m : Nat) := fun i hi => bas_rng h _ (List.mem_append_right _ (memD (l := t.fre) 0 (by rw [h.fl]; exact hi)))

/-! ### memory -/
theorem retell_L {M : Mem} (lm : LMap) (L : List (Nat × Blk)) (n : Nat) (hs : (keysB lm L && oldsL L lm) = true) (hm : memH lm n M L) (hh : ∀ ℓ t g m, (ℓ, Blk.hdr t g m) ∉ L) : Retell (lmFind lm) M (Mem.ofL L) := by
  have h := retell_fam (M := M) lm L (fun _ => none) (fun _ => none) n hs hm (fun ℓ t g m h => absurd h (hh ℓ t g m)) ⟨fun x B' hB => (by cases hB), fun x o hx => (by cases hx), fun x y o hx => (by cases hx), fun x o k hx => (by cases hx)⟩
  have e1 : famF lm (fun _ => none) = lmFind lm := by
    funext x
    unfold famF
    cases lmFind lm x <;> rfl
  have e2 : overM L (fun _ => none) = Mem.ofL L := by
    funext x
    unfold overM
    cases Mem.ofL L x <;> rfl
  rw [e1, e2] at h
  exact h
def tlL (n : Nat) (c : Br) : List (Nat × Blk) :=
  [(6001, .box 53 (bxC n 1000 c.rows.length 1001 c.nodes.length c.lines c.left .nilsl false)), (6002, .dead), (6003, .dead), (1000, .row 42 row0 encRw c.rows), (1001, .row 63 nod0 encNo c.nodes)]
def tlE (rows : List Row) : List (Nat × Blk) := [(1000, .row 42 row0 encRw rows)]
def lmT1 : LMap := [(7000, .old 1000)]
def lmT2 : LMap := [(1000, .old 7000)]
theorem tl_low (n : Nat) (c : Br) : lowL (tlL n c) = true := rfl
theorem nw_in (n : Nat) (c : Br) : Retell (lmFind lmT1) (Mem.ofL (tlL n c)) (Mem.ofL (nwL c.rows)) :=
  retell_L lmT1 (nwL c.rows) 400 rfl (auto_) (fun ℓ t g m h => by simp [nwL] at h)
theorem nw_out (n : Nat) (rows : List Row) (t : Tab) : Retell (famF (lm4 ++ lmT2) fun x => (sgF 20000 rows.length [] x).map (fun k => 10000 + k)) (tabN n t rows.length (-1) 10000 [] (nwL rows) (tabC t)) (tabN n t rows.length (-1) 20000 [] (tlE rows) (tabC t)) :=
  tab_retell (E := tlE rows) lmT2 (fun k => 10000 + k) (foc0 (by decide)) rfl rfl trivial rfl (auto_) ⟨_, rfl, fun k _ => rfl⟩ (fun k hk => tabN_row (a := []) rfl (foc0 (by decide)) hk) (fun k k' _ _ h => Nat.add_left_cancel h) (fun k hk y hy => by
    have := lowM_old (lm := lm4 ++ lmT2) rfl hy
    omega)
theorem lmT1_some {x ℓ : Nat} (h : lmFind lmT1 x = some (.old ℓ)) : x = 7000 ∧ ℓ = 1000 := by
  have := lmFind_mem h
  simp only [lmT1, List.mem_cons, Prod.mk.injEq, List.not_mem_nil, or_false, LM.old.injEq] at this
  exact this
theorem nw_c1 {x ℓ : Nat} {ψ : Nat → Option Nat} (h : lmFind lmT1 x = some (.old ℓ)) : famF (lm4 ++ lmT2) ψ ℓ = some (.old x) := by
  obtain ⟨rfl, rfl⟩ := lmT1_some h
  rfl
theorem nw_c2 {n : Nat} {c : Br} {ℓ : Nat} {y : LM} (h : famF (lm4 ++ lmT2) (fun x => (sgF 20000 c.rows.length [] x).map (fun k => 10000 + k)) ℓ = some y) : (∃ x, lmFind lmT1 x = some (.old ℓ)) ∨ Mem.ofL (tlL n c) ℓ = none := by
  unfold famF at h
  cases hf : lmFind (lm4 ++ lmT2) ℓ with
  | some z =>
    have hm := lmFind_mem hf
    simp only [lm4, lmT2, List.cons_append, List.nil_append, List.mem_cons, Prod.mk.injEq, List.not_mem_nil, or_false] at hm
    rcases hm with ⟨rfl, _⟩ | ⟨rfl, _⟩ | ⟨rfl, _⟩ | ⟨rfl, _⟩ | ⟨rfl, _⟩
    · exact .inr rfl
    · exact .inr rfl
    · exact .inr rfl
    · exact .inr rfl
    · exact .inl ⟨7000, rfl⟩
  | none =>
    rw [hf] at h
    dsimp only at h
    cases hs : sgF 20000 c.rows.length [] ℓ with
    | none => rw [hs] at h; cases h
    | some k =>
      have := (sgF_some (a := []) trivial hs).2
      exact .inr (lowL_far (tl_low n c) (by rw [← this]; show 7005 ≤ 20000 + k; omega))
theorem nw_c3 {n : Nat} {c : Br} {ℓ : Nat} {y : LM} (h : lmFind lmT2 ℓ = some y) : (∃ x, lmFind lmT1 x = some (.old ℓ)) ∨ Mem.ofL (tlL n c) ℓ = none := by
  have hm := lmFind_mem h
  simp only [lmT2, List.mem_cons, Prod.mk.injEq, List.not_mem_nil, or_false] at hm
  obtain ⟨rfl, _⟩ := hm
  exact .inl ⟨7000, rfl⟩
theorem nw_bad {M' : Mem} {rows : List Row} (h : M' 7000 = some (.row 42 row0 encRw rows)) : Retell (lmFind lmT2) M' (Mem.ofL (tlE rows)) :=
  retell_L lmT2 (tlE rows) 400 rfl ⟨by show blkR lmT2 400 (M' 7000) _; rw [h]; rfl, trivial⟩ (fun ℓ t g m h => by simp [tlE] at h)
/-- the memory behind newTableau -/
def mdN (n : Nat) (c : Br) (t : Tab) : Mem := overN (tabN n t c.rows.length (-1) 20000 [] (tlE c.rows) (tabC t)) (Mem.ofL (tlL n c))
theorem mdN_row {n : Nat} {c : Br} {t : Tab} {k : Nat} (hk : k < c.rows.length) : mdN n c t (20000 + k) = some (.row 3 0 encI (tabC t k)) := by
  unfold mdN overN
  rw [show tabN n t c.rows.length (-1) 20000 [] (tlE c.rows) (tabC t) (20000 + k) = some (.row 3 0 encI (tabC t k)) from tabN_row (a := []) rfl (foc0 (by decide)) hk]
theorem mdN_far {n : Nat} {c : Br} {t : Tab} {x : Nat} (h1 : 7005 ≤ x) (h2 : x < 20000 ∨ 20000 + c.rows.length ≤ x) : mdN n c t x = none := by
  unfold mdN overN
  have e : tabN n t c.rows.length (-1) 20000 [] (tlE c.rows) (tabC t) x = none := by
    unfold tabN overM
    rw [lowL_far (tabG_low rfl) h1]
    dsimp only
    unfold rowsN
    cases hs : sgF 20000 c.rows.length [] x with
    | none => rfl
    | some k =>
      have := sgF_some (a := []) trivial hs
      have e2 : 20000 + k = x := this.2
      omega
  rw [e]
  exact lowL_far (tl_low n c) h1
def f1S (m : Nat) : Nat → Option LM := famF (lm4 ++ []) fun x => (sgF 9000 m [] x).map (lbF 20000 [])
theorem sv_in (n : Nat) (c : Br) (t : Tab) : Retell (f1S c.rows.length) (mdN n c t) (tabN n t c.rows.length (-1) 9000 [] [] (tabC t)) :=
  tab_retell (M := mdN n c t) (E := []) [] (lbF 20000 []) (foc0 (by decide)) rfl rfl trivial rfl (auto_) ⟨_, rfl, fun k _ => rfl⟩ (fun k hk => mdN_row hk) (fun k k' h h' e => lbF_inj (foc0 (p := 20000) (by decide)).1 h h' e)
    (fun k hk y hy => by
      have := lowM_old (lm := lm4 ++ []) rfl hy
      have e : lbF 20000 [] k = 20000 + k := rfl
      omega)
theorem pb_far {m : Nat} {lab : Nat → Nat} {ℓ : Nat} {y : LM} (hm : m ≤ 10000) (hy : famF lm4 (pbP m lab) ℓ = some y) : (∃ x, f1S m x = some (.old ℓ)) ∨ ∃ k, ℓ = 30000 + k := by
  unfold famF at hy
  cases hf : lmFind lm4 ℓ with
  | some z =>
    have hmem := lmFind_mem hf
    unfold lm4 at hmem
    simp only [List.mem_cons, Prod.mk.injEq, List.not_mem_nil, or_false] at hmem
    left
    rcases hmem with ⟨rfl, _⟩ | ⟨rfl, _⟩ | ⟨rfl, _⟩ | ⟨rfl, _⟩
    · exact ⟨7001, rfl⟩
    · exact ⟨7002, rfl⟩
    · exact ⟨7003, rfl⟩
    · exact ⟨7004, rfl⟩
  | none =>
    rw [hf] at hy
    dsimp only at hy
    unfold pbP at hy
    cases hb : (Nat.ble 20000 ℓ && Nat.blt ℓ (20000 + m)) with
    | true =>
      have := pb_in.1 hb
      refine .inl ⟨9000 + (ℓ - 20000), ?_⟩
      unfold f1S
      rw [f1_old (show ℓ - 20000 < m by omega)]
      congr 2
      omega
    | false =>
      rw [hb] at hy
      dsimp only at hy
      cases hs : sgF 30000 m [] ℓ with
      | none => rw [hs] at hy; cases hy
      | some k =>
        obtain ⟨h1, h2⟩ := sgF_some (a := []) trivial hs
        have h2 : 30000 + k = ℓ := h2
        exact .inr ⟨k, h2.symm⟩
theorem sv_c2 {n : Nat} {c : Br} {t : Tab} {lab : Nat → Nat} {ℓ : Nat} {y : LM} (hm : c.rows.length ≤ 10000) (hy : famF lm4 (pbP c.rows.length lab) ℓ = some y) : (∃ x, f1S c.rows.length x = some (.old ℓ)) ∨ mdN n c t ℓ = none := by
  rcases pb_far hm hy with h | ⟨k, rfl⟩
  · exact .inl h
  · exact .inr (mdN_far (by omega) (by omega))
/-- the memory behind solve -/
def mdS (n : Nat) (c : Br) (t0 t : Tab) (bad : Int) : Mem := overN (overM (tabG n t c.rows.length bad 30000 []) (pbR c.rows.length (tabC t))) (mdN n c t0)
def mdF (n : Nat) (c : Br) (t0 : Tab) : Mem := overN (overM dbL (dbR c.rows.length)) (mdN n c t0)
theorem mdS_mat {n : Nat} {c : Br} {t0 t : Tab} {bad : Int} (hm : c.rows.length ≤ 10000) : MatS (mdS n c t0 t bad) n c.rows.length t bad (fun k => 30000 + k) := by
  refine ⟨rfl, rfl, rfl, ⟨_, rfl, fun k _ => rfl⟩, fun k hk => ?_, fun k k' _ _ h => Nat.add_left_cancel h, fun k _ => .inr (by omega)⟩
  unfold mdS overN
  rw [pb_row hm hk]
def tlA (x : Nat) : Bool := Nat.ble 7001 x
theorem mdS_only {n : Nat} {c : Br} {t0 t : Tab} {bad : Int} (hm : c.rows.length ≤ 10000) : MatS (onlyM tlA (mdS n c t0 t bad)) n c.rows.length t bad (fun k => 30000 + k) :=
  (mdS_mat hm).only rfl rfl rfl rfl fun k _ => by unfold tlA; rw [Nat.ble_eq]; omega

/-! ### what a branch leaves, its rows told as known for good -/
def brX (n : Nat) (c : Br) (u : AV) (M : Mem) : Prop := u = .tup [] ∧ ∃ pc, PtA c.point pc ∧ (M = Mem.ofL (brN n c.rows c.nodes c.lines c.left pc c.gave) ∨ M = Mem.ofL (brP n c.rows c.nodes c.lines c.left pc c.gave))
theorem pers_pt {p : Option (List Int)} {pc : AV} (h : PtA p pc) (lm : LMap) (n : Nat) (h0 : 0 < n) : avR lm n pc pc := by
  obtain ⟨n, rfl⟩ : ∃ k, n = k + 1 := ⟨n - 1, by omega⟩
  rcases PtA_cases h with ⟨_, rfl⟩ | ⟨x, _, _, rfl⟩ | ⟨ad, _, rfl⟩
  · rfl
  · rfl
  · rfl
theorem Spec.toP {P : Program} {f : FuncId} {args : List AV} {n : Nat} {L0 : List (Nat × Blk)} (hL : L0.map (·.1) = [6001, 6002, 6003]) {c : Br} (h : Spec P f args (Mem.ofL L0) (brX n c)) : Spec P f args (Mem.ofL L0) (brR n c) := by
  refine Spec.renorm 400 (R := fun u M => u = .tup [] ∧ ∃ pc, PtA c.point pc ∧ memR (lmP 6005) 400 M (brP n c.rows c.nodes c.lines c.left pc c.gave)) ?_ ?_
  case refine_2 =>
    rintro u M' ⟨rfl, pc, hpc, hM⟩
    exact ⟨_, _, .tup [], (by rw [hL]; rfl), hM, trivial, rfl, pc, hpc, rfl⟩
  refine h.after fun u M' hu => ?_
  obtain ⟨rfl, pc, hpc, hM | hM⟩ := hu
  · subst hM
    refine ⟨_, Wk.leakBox (ℓ := 6004) (ℓb := 6001) rfl rfl, rfl, pc, hpc, ?_⟩
    rcases PtA_cases hpc with ⟨_, rfl⟩ | ⟨x, _, _, rfl⟩ | ⟨ad, _, rfl⟩
    · exact (auto_)
    · exact (auto_)
    · exact (auto_)
  · subst hM
    refine ⟨_, Wk.refl _, rfl, pc, hpc, ?_⟩
    rcases PtA_cases hpc with ⟨_, rfl⟩ | ⟨x, _, _, rfl⟩ | ⟨ad, _, rfl⟩
    · exact (auto_)
    · exact (auto_)
    · exact (auto_)
theorem fkD_ok {n : Nat} {t : Tab} {r : Nat} {d : Der} (h : fkD n t r = some d) (hn : n ≤ 1000) : okD d := by
  unfold fkD at h
  split at h
  · cases h
  · have e := (Option.some.inj h).symm
    subst e
    have := fkK_len n t r n
    unfold okD fkE
    simp only [List.length_map]
    omega
theorem frK_b {n m : Nat} {t : Tab} (hB : TabB m t) : ∀ k, k ≤ m → -1073741824 ≤ (frK n t k).2 ∧ (frK n t k).2 ≤ 1073741824
  | 0, _ => by rw [frK]; dsimp only; omega
  | k + 1, hk => by
    have ih := frK_b (n := n) hB k (by omega)
    have hc := hB.cb k (by omega)
    rw [frK]
    split
    · dsimp only
      have := Int.natAbs_tdiv_le_natAbs (cl t k 0) t.den
      omega
    · exact ih
end Go.Proofs.Ytgjmbmdaaahmkaa
