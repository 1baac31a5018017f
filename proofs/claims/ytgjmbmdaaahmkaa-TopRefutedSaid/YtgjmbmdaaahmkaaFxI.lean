
/-
  Contract: a pivot of the tableau, by the program.
-/
import Derived.Test.YtgjmbmdaaahmkaaFxH
set_option linter.unusedVariables false
set_option linter.unusedSimpArgs false
namespace Go.Proofs.Ytgjmbmdaaahmkaa
set_option maxRecDepth 100000
set_option maxHeartbeats 64000000

/-- a tableau whose numbers fit -/
structure TabS (n m : Nat) (t : Tab) : Prop where
  bl : t.bas.length = m
  fl : t.fre.length = n
  cm : t.cel.length = m
  cn : ∀ i, i < m → (t.cel.getD i []).length = n + 1
  dp : 0 < t.den ∧ t.den ≤ 1073741824
  cb : ∀ i j, i < m → j < n + 1 → mostB (cl t i j)
def tabC (t : Tab) (k : Nat) : List Int := t.cel.getD k []
/-- the tableau in a memory, its rows under any labels -/
structure MatS (M : Mem) (n m : Nat) (t : Tab) (bad : Int) (lab : Nat → Nat) : Prop where
  box : M 7001 = some (.box 77 [.int .i64 n, .int .i64 t.den, .row 7002 t.bas.length 1, .row 7003 t.fre.length 1, .row 7004 m 1, .int .i64 bad])
  bas : M 7002 = some (.row 3 0 encI t.bas)
  fre : M 7003 = some (.row 3 0 encI t.fre)
  hdr : ∃ g, M 7004 = some (.hdr 28 g m) ∧ ∀ k, k < m → g k = [.row (lab k) (n + 1) 1]
  row : ∀ k, k < m → M (lab k) = some (.row 3 0 encI (tabC t k))
  inj : ∀ k k', k < m → k' < m → lab k = lab k' → k = k'
  far : ∀ k, k < m → lab k < 7001 ∨ 7005 ≤ lab k
/-- what lay there lies there, or is dead -/
def hasM (M : Mem) (m : Nat) : Prop := M 7001 ≠ none ∧ M 7002 ≠ none ∧ M 7003 ≠ none ∧ M 7004 ≠ none ∧ ∀ k, k < m → M (9000 + k) = some .dead
def pvF (n : Nat) (t : Tab) (r s i : Nat) (k : Nat) : List Int := if k < i ∧ k ≠ r then (List.range (n + 1)).map (pvN t r s k) else tabC t k
theorem pvF_zero (n : Nat) (t : Tab) (r s : Nat) : pvF n t r s 0 = tabC t := by
  funext k
  unfold pvF
  rw [if_neg (by omega)]
theorem pvF_r (n : Nat) (t : Tab) (r s i : Nat) : pvF n t r s i r = tabC t r := by
  unfold pvF
  rw [if_neg (by omega)]
theorem pvF_i (n : Nat) (t : Tab) (r s i : Nat) : pvF n t r s i i = tabC t i := by
  unfold pvF
  rw [if_neg (by omega)]
theorem pvF_skip (n : Nat) (t : Tab) (r s : Nat) : pvF n t r s (r + 1) = pvF n t r s r := by
  funext k
  unfold pvF
  by_cases h : k < r ∧ k ≠ r
  · rw [if_pos h, if_pos (by omega)]
  · rw [if_neg h, if_neg (by omega)]
/-- so, while row i is gone through -/
def pvI (n : Nat) (t : Tab) (r s i j : Nat) (k : Nat) : List Int := if k = i then mixT (n + 1) (tabC t i) (pvN t r s i) j else pvF n t r s i k
theorem pvI_i (n : Nat) (t : Tab) (r s i j : Nat) : pvI n t r s i j i = mixT (n + 1) (tabC t i) (pvN t r s i) j := if_pos rfl
theorem pvI_r {n : Nat} {t : Tab} {r s i j : Nat} (h : i ≠ r) : pvI n t r s i j r = tabC t r := by
  unfold pvI
  rw [if_neg (fun e => h e.symm), pvF_r]
theorem mixT_at {n : Nat} {c : List Int} {f : Nat → Int} {i j : Nat} (h : i < n) (hj : i < j) : (mixT n c f j).getD i 0 = f i := by
  rw [getD_elem 0 (by rw [mixT_len]; exact h)]
  simp only [mixT, List.getElem_map, List.getElem_range]
  rw [if_pos hj]
theorem mul_60 {a b : Int} (ha : mostB a) (hb : mostB b) : -1152921504606846976 ≤ a * b ∧ a * b ≤ 1152921504606846976 := by
  unfold mostB at ha hb
  have h1 : (a * b).natAbs ≤ 1073741824 * 1073741824 := by
    rw [Int.natAbs_mul]
    exact Nat.mul_le_mul (by omega) (by omega)
  omega
/-- a pivot's end: what came in under labels of rows is dead -/
theorem piv_end {n m : Nat} {t : Tab} {bad : Int} {M : Mem} (hm : m ≤ 10000) (h0 : ∀ k, k < m → M (9000 + k) = none) (h1 : M 7001 ≠ none) (h2 : M 7002 ≠ none) (h3 : M 7003 ≠ none) (h4 : M 7004 ≠ none) :
    (∀ x, tabN n t m bad 9000 [] [] (tabC t) x ≠ none → x ∉ [7001, 7002, 7003, 7004] → M x = none) ∧ hasM (deadM (tabN n t m bad 9000 [] [] (tabC t)) [7001, 7002, 7003, 7004] M) m := by
  have hd : ∀ x, x ∈ [7001, 7002, 7003, 7004] → deadM (tabN n t m bad 9000 [] [] (tabC t)) [7001, 7002, 7003, 7004] M x = M x := fun x h => deadM_in h
  refine ⟨fun x hx hxD => ?_, ?_, ?_, ?_, ?_, fun k hk => ?_⟩
  · rcases tabN_dom hx with h | ⟨k, hk, rfl⟩
    · exact absurd h hxD
    · exact h0 k hk
  · rw [hd _ (by simp)]; exact h1
  · rw [hd _ (by simp)]; exact h2
  · rw [hd _ (by simp)]; exact h3
  · rw [hd _ (by simp)]; exact h4
  · refine deadM_out ?_ (by simp only [List.mem_cons, List.not_mem_nil, or_false]; omega)
    have := tabN_row (n := n) (t := t) (m := m) (bad := bad) (E := []) (c := tabC t) rfl (foc0 (p := 9000) (by decide)) hk
    rw [show lbF 9000 [] k = 9000 + k from rfl] at this
    rw [this]; simp
theorem piv_true {n m : Nat} {t : Tab} {bad : Int} {r s : Nat} {M : Mem} (ht : TabS n m t) (hm : m ≤ 10000) (hr : r < m) (hs : s < n) (hpv : pvB m n t r s)
    (f1 : M 7001 = some (.box 77 [.int .i64 n, .int .i64 (cl t r (s + 1)), .row 7002 t.bas.length 1, .row 7003 t.fre.length 1, .row 7004 m 1, .int .i64 bad])) (f2 : M 7002 = some (.row 3 0 encI (t.bas.set r (t.fre.getD s 0)))) (f3 : M 7003 = some (.row 3 0 encI (t.fre.set s (t.bas.getD r 0))))
    (f4 : ∃ g, M 7004 = some (.hdr 28 g m) ∧ g r = [.row 141 (n + 1) 1] ∧ ∀ k, k < m → k ≠ r → g k = [.row (20000 + k) (n + 1) 1]) (f5 : M 141 = some (.row 3 0 encI ((mixT (n + 1) (List.replicate (n + 1) 0) (fun j => 0 - cl t r j) (n + 1)).set (s + 1) t.den)))
    (f6 : ∀ k, k < m → k ≠ r → M (20000 + k) = some (.row 3 0 encI (pvF n t r s m k))) (f0 : ∀ k, k < m → M (9000 + k) = none) :
    (∀ x, tabN n t m bad 9000 [] [] (tabC t) x ≠ none → x ∉ [7001, 7002, 7003, 7004] → M x = none) ∧ (pvB m n t r s ∧ AV.bool true = .bool true ∧ hasM (deadM (tabN n t m bad 9000 [] [] (tabC t)) [7001, 7002, 7003, 7004] M) m ∧
      ∃ lab, MatS (deadM (tabN n t m bad 9000 [] [] (tabC t)) [7001, 7002, 7003, 7004] M) n m (pvT m n t r s) bad lab ∧ ∀ k, k < m → lab k < 9000 ∨ 9000 + m ≤ lab k) := by
  obtain ⟨e1, e2⟩ := piv_end (n := n) (t := t) (bad := bad) hm f0 (by rw [f1]; simp) (by rw [f2]; simp) (by rw [f3]; simp) (by obtain ⟨g, h, _⟩ := f4; rw [h]; simp)
  have hd : ∀ x, x ∈ [7001, 7002, 7003, 7004] → deadM (tabN n t m bad 9000 [] [] (tabC t)) [7001, 7002, 7003, 7004] M x = M x := fun x h => deadM_in h
  have hnew : ∀ x, (x < 7001 ∨ 9000 + m ≤ x) → deadM (tabN n t m bad 9000 [] [] (tabC t)) [7001, 7002, 7003, 7004] M x = M x := by
    intro x hx
    refine deadM_new ?_
    cases h : tabN n t m bad 9000 [] [] (tabC t) x with
    | none => rfl
    | some B =>
      rcases tabN_dom (by rw [h]; simp) with h2 | ⟨k, hk, rfl⟩
      · simp only [List.mem_cons, List.not_mem_nil, or_false] at h2; omega
      · omega
  have hcel : ∀ k, k < m → tabC (pvT m n t r s) k = (List.range (n + 1)).map fun j => if k = r then (if j = s + 1 then t.den else - cl t r j) else pvN t r s k j := by
    intro k hk
    show ((List.range m).map fun i => (List.range (n + 1)).map fun j => if i = r then (if j = s + 1 then t.den else - cl t r j) else pvN t r s i j).getD k [] = _
    rw [getD_elem [] (by simpa using hk)]
    simp
  have hline : (mixT (n + 1) (List.replicate (n + 1) 0) (fun j => 0 - cl t r j) (n + 1)).set (s + 1) t.den = tabC (pvT m n t r s) r := by
    rw [hcel r hr, mixT_all]
    apply List.ext_getElem
    · simp
    · intro j h1 h2
      rw [List.getElem_set]
      simp only [List.getElem_map, List.getElem_range]
      by_cases e : s + 1 = j
      · rw [if_pos e, if_pos trivial, if_pos e.symm]
      · rw [if_neg e, if_pos trivial, if_neg (fun h => e h.symm), Int.zero_sub]
  have hrow : ∀ k, k < m → k ≠ r → pvF n t r s m k = tabC (pvT m n t r s) k := by
    intro k hk hkr
    unfold pvF
    rw [if_pos ⟨hk, hkr⟩, hcel k hk]
    congr 1
    funext j
    rw [if_neg hkr]
  refine ⟨e1, hpv, rfl, e2, fun k => if k = r then 141 else 20000 + k, ⟨?_, ?_, ?_, ?_, fun k hk => ?_, fun k k' hk hk' h => ?_, fun k hk => ?_⟩, fun k hk => ?_⟩
  · rw [hd _ (by simp), f1]
    simp only [pvT, List.length_set]
  · rw [hd _ (by simp), f2]
    rfl
  · rw [hd _ (by simp), f3]
    rfl
  · obtain ⟨g, g1, g2, g3⟩ := f4
    refine ⟨g, by rw [hd _ (by simp), g1], fun k hk => ?_⟩
    by_cases e : k = r
    · rw [if_pos e, e, g2]
    · rw [if_neg e, g3 k hk e]
  · by_cases e : k = r
    · subst e
      rw [if_pos rfl, hnew _ (.inl (by omega)), f5, hline]
    · rw [if_neg e, hnew _ (.inr (by omega)), f6 k hk e, hrow k hk e]
  · by_cases e : k = r
    · rw [if_pos e] at h
      by_cases e' : k' = r
      · rw [e, e']
      · rw [if_neg e'] at h; omega
    · rw [if_neg e] at h
      by_cases e' : k' = r
      · rw [if_pos e'] at h; omega
      · rw [if_neg e'] at h; omega
  · by_cases e : k = r <;> simp only [e, if_true, if_false] <;> omega
  · by_cases e : k = r <;> simp only [e, if_true, if_false] <;> omega
theorem and_inl {a b c : Prop} (h : a ∧ b) : a ∧ (b ∨ c) := ⟨h.1, .inl h.2⟩
theorem pivotF (n m : Nat) (t : Tab) (bad : Int) (r s : Nat) (ht : TabS n m t) (hn : n ≤ 1000) (hm : m ≤ 10000) (hr : r < m) (hs : s < n) (hp : cl t r (s + 1) ≠ 0) :
    Spec Try.prog 42 [.ptr 7001 0, .int .i64 (r : Int), .int .i64 (s : Int)] (tabN n t m bad 9000 [] [] (tabC t))
      (fun u M' => (pvB m n t r s ∧ u = .bool true ∧ hasM M' m ∧ ∃ lab, MatS M' n m (pvT m n t r s) bad lab ∧ ∀ k, k < m → lab k < 9000 ∨ 9000 + m ≤ lab k) ∨ (¬ pvB m n t r s ∧ u = .bool false ∧ hasM M' m)) := by
  have hb := ht.bl
  have hf := ht.fl
  have hc := ht.cm
  refine Spec.introG (args' := [.ptr 7001 0, .int .i64 (r : Int), .int .i64 (s : Int)]) (M1 := tabN n t m bad 20000 [(8802, r)] [] (tabC t)) tt_ok mx_ok (famF (lm4 ++ []) fun x => (sgF 20000 m [(8802, r)] x).map (lbF 9000 [])) [7001, 7002, 7003, 7004]
    (tab_retell (M := tabN n t m bad 9000 [] [] (tabC t)) [] (lbF 9000 []) (foc1 (by decide) hr) rfl rfl trivial rfl (auto_) ⟨_, rfl, fun k _ => rfl⟩ (fun k hk => tabN_row rfl (foc0 (by decide)) hk) (fun k k' h h' e => lbF_inj (foc0 (p := 9000) (by decide)).1 h h' e)
      (fun k hk y hy => by have := lowM_old (lm := lm4 ++ []) rfl hy; have := (foc0 (p := 9000) (m := m) (by decide)).big k; omega))
    (fun d hd => famF_lm d _ (by
      simp only [List.mem_cons, List.not_mem_nil, or_false] at hd
      rcases hd with rfl | rfl | rfl | rfl <;> rfl))
    (TellL.by_ (lm := lm4) 400 famF_lm (auto_)) Try.func42 rfl (by decide) ?_
  have lr : lbF 20000 [(8802, r)] r = 8802 := by rw [lbF, Nat.beq_refl]
  have hrl : (tabC t r).length = n + 1 := ht.cn r hr
  have es : ((s : Int) + 1).toNat = s + 1 := by omega
  conv => whnf
  refine needI (by omega) ?_
  rw [Int.toNat_natCast]
  conv => whnf
  refine arI trivial (by omega) ?_
  conv => whnf
  refine needI (by omega) ?_
  rw [lr, es]
  conv => whnf
  refine needI (by omega) ?_
  rw [Int.toNat_natCast]
  conv => whnf
  rw [lr]
  have hX1 : ∀ {a' : List (Nat × Nat)}, fnA a' 8802 = some r → ∀ q ∈ [(8802, LM.old 8802)], famF (lm4 ++ []) (fun x => (sgF 20000 m a' x).map (lbF 20000 [(8802, r)])) q.1 = some q.2 := by
    intro a' h q hq
    simp only [List.mem_cons, List.not_mem_nil, or_false] at hq
    subst hq
    refine famF_ψ rfl ?_
    dsimp only
    unfold sgF
    rw [h]
    dsimp only [Option.map_some]
    rw [lr]
  refine WPc.loopM tt_ok mx_ok (fun i : Nat => i ≤ m ∧ ∀ q, q < i → q ≠ r → ∀ j, j < n + 1 → mostB (pvN t r s q j)) (fun i => [(37, .int .i64 (i : Int))]) (fun i => tabN n t m bad 20000 [(8802, r)] [] (pvF n t r s i)) (fun i => m - i) 0 ⟨Nat.zero_le _, fun q hq => absurd hq (Nat.not_lt_zero _)⟩ ?_
  conv => whnf
  refine ⟨?_, ?_⟩
  · show Sub _ _ _ _ _
    rw [pvF_zero]
    exact tab_go (foc1 (by decide) hr) (foc1 (by decide) hr) [(8802, .old 8802)] (hX1 rfl) (auto_)
  rintro i ⟨hi, ha⟩
  by_cases hlt : i < m
  case neg =>
    refine codeFR ?_
    conv => whnf
    refine cmpF (by omega) ?_
    conv => whnf
    refine mkI 0 encI 0 rfl (by dsimp only; omega) ?_
    rw [Int.toNat_natCast]
    conv => whnf
    obtain rfl : i = m := by omega
    have f1 := foc1 (p := 20000) (m := i) (by decide) hr
    have hcr : pvF n t r s i r = tabC t r := pvF_r n t r s i
    refine WPc.loopM tt_ok mx_ok (fun j : Nat => j ≤ n + 1) (fun j => [(144, .int .i64 (j : Int))]) (fun j => tabN n t i bad 20000 [(8802, r)] [(141, .row 3 0 encI (mixT (n + 1) (List.replicate (n + 1) 0) (fun j => 0 - cl t r j) j))] (pvF n t r s i)) (fun j => n + 1 - j) 0 (Nat.zero_le _) ?_
    conv => whnf
    have hsub : ∀ {M : Mem} {fr fr' : List AV} {l : List Int}, memH (lm4 ++ [(141, .old 141)]) 400 M (tabG n t i bad 20000 [(8802, r)] ++ [(141, .row 3 0 encI l)]) → (∃ g, M 7004 = some (.hdr 28 g i) ∧ ∀ k, k < i → g k = [.row (lbF 20000 [(8802, r)] k) (n + 1) 1]) →
        (∀ k, k < i → M (lbF 20000 [(8802, r)] k) = some (.row 3 0 encI (pvF n t r s i k))) → avRs (lm4 ++ [(141, .old 141), (8802, .old 8802)]) 400 fr fr' →
        Sub [7001, 7002, 7003, 7004] fr M fr' (tabN n t i bad 20000 [(8802, r)] [(141, .row 3 0 encI l)] (pvF n t r s i)) := by
      intro M fr fr' l h1 h2 h3 h4
      exact tab_subL hr h1 h2 h3 h4
    have hset : ∀ {B : Blk} {E : List (Nat × Blk)}, lowL E = true → ∀ k, k < i → ((tabN n t i bad 20000 [(8802, r)] E (pvF n t r s i)).set 141 B) (lbF 20000 [(8802, r)] k) = some (.row 3 0 encI (pvF n t r s i k)) := by
      intro B E hE k hk
      have := f1.big k
      rw [Mem.set_ne _ _ (by omega)]
      exact tabN_row hE f1 hk
    refine ⟨?_, ?_⟩
    · show Sub _ _ _ _ _
      rw [mixT_zero _ (by simp)]
      exact hsub (auto_) ⟨_, rfl, fun k _ => rfl⟩ (hset rfl) (auto_)
    rintro j hj
    have lM := mixT_len (n + 1) (List.replicate (n + 1) 0) (fun j => 0 - cl t r j) j
    by_cases hj1 : j < n + 1
    · refine codeFR ?_
      conv => whnf
      refine cmpT (by omega) ?_
      conv => whnf
      have hol : (pvF n t r s i r).getD j 0 = cl t r j := by rw [hcr]; rfl
      have bj : mostB ((pvF n t r s i r).getD j 0) := by rw [hol]; exact ht.cb r j hr hj1
      unfold mostB at bj
      refine needV (u' := .rel 8802 j 0) (by omega) (by rw [Int.toNat_natCast]) ?_
      conv => whnf
      refine arI trivial (by omega) ?_
      conv => whnf
      refine needV (u' := .rel 141 j 0) (by omega) (by rw [Int.toNat_natCast]) ?_
      conv => whnf
      refine rowSetI (0 - cl t r j) (by rw [hol]; rfl) ?_
      conv => whnf
      refine arI trivial (by omega) ?_
      conv => whnf
      refine ⟨j + 1, ?_, by omega, by dsimp only; omega⟩
      dsimp only
      rw [mixT_up (f := fun j => 0 - cl t r j) hj1]
      exact hsub (auto_) ⟨_, rfl, fun k _ => rfl⟩ (hset rfl) (auto_)
    · obtain rfl : j = n + 1 := by omega
      generalize hL0 : mixT (n + 1) (List.replicate (n + 1) 0) (fun j => 0 - cl t r j) (n + 1) = L0 at lM ⊢
      refine codeFR ?_
      conv => whnf
      refine cmpF (by omega) ?_
      conv => whnf
      refine arI trivial (by omega) ?_
      conv => whnf
      refine needV (u' := .rel 141 (s + 1) 0) (by omega) (by rw [es]) ?_
      refine forceI ?_
      refine putI ?_
      refine ops_store1 rfl rfl rfl rfl rfl ?_
      conv => whnf
      refine needV (u' := .rel 7004 r 0) (by omega) (by rw [Int.toNat_natCast]) ?_
      refine forceI ?_
      refine putI ?_
      refine ops_storeH (fun k => match Nat.beq k r with | true => [.row 141 (n + 1) 1] | false => [.row (lbF 20000 [(8802, r)] k) (n + 1) 1]) rfl rfl rfl rfl rfl rfl rfl rfl (by funext k; cases Nat.beq k r <;> rfl) ?_
      conv => whnf
      first | refine drawI (by decide +kernel) ?_ | refine drawO (by decide +kernel) ?_ | refine drawR (by decide +kernel) ?_
      conv => whnf
      refine needV (u' := .rel 7003 s 0) (by omega) (by rw [Int.toNat_natCast]) ?_
      conv => whnf
      refine needV (u' := .rel 7002 r 0) (by omega) (by rw [Int.toNat_natCast]) ?_
      conv => whnf
      refine needV (u' := .rel 7002 r 0) (by omega) (by rw [Int.toNat_natCast]) ?_
      conv => whnf
      refine rowSetI (t.fre.getD s 0) rfl ?_
      conv => whnf
      refine needV (u' := .rel 7003 s 0) (by omega) (by rw [Int.toNat_natCast]) ?_
      conv => whnf
      refine rowSetI (t.bas.getD r 0) rfl ?_
      conv => whnf
      have hlb : ∀ k, k ≠ r → lbF 20000 [(8802, r)] k = 20000 + k := fun k hk => lbF_out (by rw [inA, beq_f (fun e => hk e.symm)]; rfl)
      refine and_inl (piv_true ht hm hr hs (fun q hq hqr j hj => ha q hq hqr j hj) rfl rfl rfl ⟨_, rfl, ?_, fun k hk hkr => ?_⟩ ?_ (fun k hk hkr => ?_) (fun k hk => ?_))
      · rw [Nat.beq_refl]
      · rw [beq_f hkr, hlb k hkr]
      · rw [hL0]; rfl
      · rw [Mem.set_ne _ _ (by omega), Mem.set_ne _ _ (by omega), Mem.set_ne _ _ (by omega), Mem.set_ne _ _ (by omega), Mem.set_ne _ _ (by omega), ← hlb k hkr]
        exact tabN_row rfl f1 hk
      · rw [Mem.set_ne _ _ (by omega), Mem.set_ne _ _ (by omega), Mem.set_ne _ _ (by omega), Mem.set_ne _ _ (by omega), Mem.set_ne _ _ (by omega)]
        exact tabN_free rfl (by omega) (by omega) (by simp only [fnA]; rw [beq_f (by omega)])
  by_cases hir : i = r
  · subst hir
    conv => whnf
    refine codeFR ?_
    conv => whnf
    refine cmpT (by omega) ?_
    conv => whnf
    refine cmpT rfl ?_
    conv => whnf
    refine arI trivial (by omega) ?_
    conv => whnf
    refine ⟨i + 1, ?_, ⟨by omega, fun q hq hqr => ha q (by omega) hqr⟩, by dsimp only; omega⟩
    dsimp only
    rw [pvF_skip]
    exact tab_go (foc1 (by decide) hr) (foc1 (by decide) hr) [(8802, .old 8802)] (hX1 rfl) (auto_)
  · have f1 := foc1 (p := 20000) (m := m) (by decide) hr
    have f2 := foc2 (p := 20000) (m := m) (by decide) hr hlt hir
    have li : lbF 20000 [(8802, r), (8801, i)] i = 8801 := by rw [lbF, beq_f (fun e => hir e.symm)]; dsimp only; rw [lbF, Nat.beq_refl]
    have lr2 : lbF 20000 [(8802, r), (8801, i)] r = 8802 := by rw [lbF, Nat.beq_refl]
    have hil : (tabC t i).length = n + 1 := ht.cn i hlt
    have hci : pvF n t r s i i = tabC t i := pvF_i n t r s i
    have hcr : pvF n t r s i r = tabC t r := pvF_r n t r s i
    have hX2 : ∀ q ∈ [(8802, LM.old 8802), (8801, LM.old 8801)], famF (lm4 ++ []) (fun x => (sgF 20000 m [(8802, r), (8801, i)] x).map (lbF 20000 [(8802, r), (8801, i)])) q.1 = some q.2 := by
      intro q hq
      simp only [List.mem_cons, List.not_mem_nil, or_false] at hq
      rcases hq with rfl | rfl
      · refine famF_ψ rfl ?_
        show (some r).map (lbF 20000 [(8802, r), (8801, i)]) = some 8802
        rw [Option.map_some, lr2]
      · refine famF_ψ rfl ?_
        show (some i).map (lbF 20000 [(8802, r), (8801, i)]) = some 8801
        rw [Option.map_some, li]
    have hX3 : ∀ q ∈ [(8802, LM.old 8802)], famF (lm4 ++ []) (fun x => (sgF 20000 m [(8802, r)] x).map (lbF 20000 [(8802, r), (8801, i)])) q.1 = some q.2 := by
      intro q hq
      simp only [List.mem_cons, List.not_mem_nil, or_false] at hq
      subst hq
      refine famF_ψ rfl ?_
      show (some r).map (lbF 20000 [(8802, r), (8801, i)]) = some 8802
      rw [Option.map_some, lr2]
    conv => whnf
    refine codeFS (tab_go f1 f2 [(8802, .old 8802)] (hX1 rfl) (auto_)) ?_
    conv => whnf
    refine cmpT (by omega) ?_
    conv => whnf
    refine cmpF (by omega) ?_
    conv => whnf
    refine needI (by omega) ?_
    rw [Int.toNat_natCast]
    conv => whnf
    refine arI trivial (by omega) ?_
    conv => whnf
    refine needI (by omega) ?_
    rw [li, es]
    conv => whnf
    refine needI (by omega) ?_
    rw [Int.toNat_natCast]
    conv => whnf
    rw [li]
    refine WPc.loopM tt_ok mx_ok (fun j : Nat => j ≤ n + 1 ∧ ∀ y, y < j → mostB (pvN t r s i y)) (fun j => [(62, .int .i64 (j : Int))]) (fun j => tabN n t m bad 20000 [(8802, r), (8801, i)] [] (pvI n t r s i j)) (fun j => n + 1 - j) 0 ⟨Nat.zero_le _, fun q hq => absurd hq (Nat.not_lt_zero _)⟩ ?_
    conv => whnf
    refine ⟨?_, ?_⟩
    · show Sub _ _ _ _ _
      have e : pvI n t r s i 0 = pvF n t r s i := by
        funext k
        unfold pvI
        by_cases e : k = i
        · subst e; rw [if_pos rfl, mixT_zero _ hil, hci]
        · rw [if_neg e]
      rw [e]
      exact tab_go f2 f2 [(8802, .old 8802), (8801, .old 8801)] hX2 (auto_)
    rintro j ⟨hj, hb2⟩
    have hset : (tabN n t m bad 20000 [(8802, r), (8801, i)] [] (pvI n t r s i j)).set 8801 (.row 3 0 encI (mixT (n + 1) (tabC t i) (pvN t r s i) (j + 1))) =
        tabN n t m bad 20000 [(8802, r), (8801, i)] [] (pvI n t r s i (j + 1)) := by
      have e := tab_set (n := n) (t := t) (bad := bad) (E := []) (c := pvI n t r s i j) rfl f2 hlt (mixT (n + 1) (tabC t i) (pvN t r s i) (j + 1))
      rw [li] at e
      rw [e]
      congr 1
      funext k
      unfold pvI
      by_cases h : k = i
      · rw [if_pos h, if_pos h]
      · rw [if_neg h, if_neg h, if_neg h]
    have lM := mixT_len (n + 1) (tabC t i) (pvN t r s i) j
    by_cases hj1 : j < n + 1
    case neg =>
      refine codeFR ?_
      conv => whnf
      refine cmpF (by omega) ?_
      conv => whnf
      refine arI trivial (by omega) ?_
      conv => whnf
      refine ⟨i + 1, ?_, ⟨by omega, fun q hq hqr => ?_⟩, by dsimp only; omega⟩
      · obtain rfl : j = n + 1 := by omega
        dsimp only
        have e : pvI n t r s i (n + 1) = pvF n t r s (i + 1) := by
          funext k
          unfold pvI pvF
          by_cases h : k = i
          · subst h
            rw [if_pos rfl, if_pos ⟨by omega, hir⟩, mixT_all]
          · rw [if_neg h]
            by_cases h2 : k < i ∧ k ≠ r
            · rw [if_pos h2, if_pos (by omega)]
            · rw [if_neg h2, if_neg (by omega)]
        rw [e]
        exact tab_go f2 f1 [(8802, .old 8802)] hX3 (auto_)
      · by_cases e : q = i
        · subst e; exact fun y hy => hb2 y (by omega)
        · exact ha q (by omega) hqr
    refine codeFR ?_
    conv => whnf
    refine cmpT (by omega) ?_
    conv => whnf
    have up : (mixT (n + 1) (tabC t i) (pvN t r s i) j).set j (pvN t r s i j) = mixT (n + 1) (tabC t i) (pvN t r s i) (j + 1) := mixT_up hj1
    have at_j : (mixT (n + 1) (tabC t i) (pvN t r s i) (j + 1)).getD j 0 = pvN t r s i j := mixT_at hj1 (Nat.lt_succ_self j)
    have lM2 := mixT_len (n + 1) (tabC t i) (pvN t r s i) (j + 1)
    have hget : ((pvI n t r s i j i).set j (pvN t r s i j)).getD j 0 = pvN t r s i j := by rw [pvI_i, up, at_j]
    have hend : ¬ pvB m n t r s → (∀ x, tabN n t m bad 9000 [] [] (tabC t) x ≠ none → x ∉ [7001, 7002, 7003, 7004] → ((tabN n t m bad 20000 [(8802, r), (8801, i)] [] (pvI n t r s i j)).set 8801 (.row 3 0 encI ((pvI n t r s i j i).set j (pvN t r s i j)))) x = none) ∧
        (¬ pvB m n t r s ∧ AV.bool false = .bool false ∧ hasM (deadM (tabN n t m bad 9000 [] [] (tabC t)) [7001, 7002, 7003, 7004] ((tabN n t m bad 20000 [(8802, r), (8801, i)] [] (pvI n t r s i j)).set 8801 (.row 3 0 encI ((pvI n t r s i j i).set j (pvN t r s i j))))) m) := by
      intro hb0
      rw [pvI_i, up, hset]
      have := piv_end (n := n) (t := t) (bad := bad) (M := tabN n t m bad 20000 [(8802, r), (8801, i)] [] (pvI n t r s i (j + 1))) hm (fun k hk => tabN_free rfl (by omega) (by omega) (by
        simp only [fnA]
        rw [beq_f (by omega), beq_f (by omega)])) (by simp [tabN, overM, tabG, Mem.ofL]) (by simp [tabN, overM, tabG, Mem.ofL]) (by simp [tabN, overM, tabG, Mem.ofL]) (by simp [tabN, overM, tabG, Mem.ofL])
      exact ⟨this.1, hb0, rfl, this.2⟩
    have hbad : ¬ mostB (pvN t r s i j) → ¬ pvB m n t r s := fun h hh => h (hh i hlt hir j hj1)
    have next : ∀ q, q < j + 1 → mostB (pvN t r s i j) → mostB (pvN t r s i q) := fun q hq hv => by
      by_cases e : q = j
      · subst e; exact hv
      · exact hb2 q (by omega)
    refine arI trivial (by omega) ?_
    conv => whnf
    refine cmpI (fun g => ?_) (fun g => ?_) <;> conv => whnf
    · have hv1 : (pvF n t r s i i).getD (s + 1) 0 = pvN t r s i j := by
        rw [hci]
        unfold pvN
        rw [if_pos (by omega)]
        rfl
      refine needV (u' := .rel 7004 i 0) (by omega) (by rw [Int.toNat_natCast]) ?_
      conv => whnf
      refine needV (u' := .rel 8801 j 0) (by omega) (by rw [li, Int.toNat_natCast]) ?_
      conv => whnf
      refine rowSetI (pvN t r s i j) (by rw [hv1]; rfl) ?_
      conv => whnf
      refine needV (u' := .rel 7004 i 0) (by omega) (by rw [Int.toNat_natCast]) ?_
      conv => whnf
      refine needV (u' := .rel 8801 j 0) (by omega) (by rw [li, Int.toNat_natCast]) ?_
      conv => whnf
      refine cmpI (fun g2 => ?_) (fun g2 => ?_) <;> conv => whnf
      · rw [hget] at g2
        have he := hend (hbad fun h => by unfold mostB at h; omega)
        exact ⟨he.1, .inr he.2⟩
      rw [hget] at g2
      refine needV (u' := .rel 7004 i 0) (by omega) (by rw [Int.toNat_natCast]) ?_
      conv => whnf
      refine needV (u' := .rel 8801 j 0) (by omega) (by rw [li, Int.toNat_natCast]) ?_
      conv => whnf
      refine cmpI (fun g3 => ?_) (fun g3 => ?_) <;> conv => whnf
      · rw [hget] at g3
        have he := hend (hbad fun h => by unfold mostB at h; omega)
        exact ⟨he.1, .inr he.2⟩
      rw [hget] at g3
      refine arI trivial (by omega) ?_
      conv => whnf
      refine ⟨j + 1, ?_, ⟨by omega, fun q hq => next q hq (by unfold mostB; omega)⟩, by dsimp only; omega⟩
      dsimp only
      rw [pvI_i, up, hset]
      exact tab_go f2 f2 [(8802, .old 8802), (8801, .old 8801)] hX2 (auto_)
    · have hcl : (pvI n t r s i j i).getD j 0 = cl t i j := by rw [pvI_i, mixT_get hj1 (Nat.lt_irrefl _)]; rfl
      have hol : (pvI n t r s i j r).getD j 0 = cl t r j := by rw [pvI_r hir]; rfl
      have hkl : (pvF n t r s i i).getD (s + 1) 0 = cl t i (s + 1) := by rw [hci]; rfl
      have hv2 : ((tabC t r).getD (s + 1) 0 * (pvI n t r s i j i).getD j 0 - (pvF n t r s i i).getD (s + 1) 0 * (pvI n t r s i j r).getD j 0).tdiv t.den = pvN t r s i j := by
        rw [hcl, hol, hkl]
        unfold pvN
        rw [if_neg (by omega)]
        rfl
      have b1 := mul_60 (a := (tabC t r).getD (s + 1) 0) (b := (pvI n t r s i j i).getD j 0) (ht.cb r (s + 1) hr (by omega)) (by rw [hcl]; exact ht.cb i j hlt hj1)
      have b2 := mul_60 (a := (pvF n t r s i i).getD (s + 1) 0) (b := (pvI n t r s i j r).getD j 0) (by rw [hkl]; exact ht.cb i (s + 1) hlt (by omega)) (by rw [hol]; exact ht.cb r j hr hj1)
      have b3 := tdiv_b ((tabC t r).getD (s + 1) 0 * (pvI n t r s i j i).getD j 0 - (pvF n t r s i i).getD (s + 1) 0 * (pvI n t r s i j r).getD j 0) t.den (m := 2305843009213693952) (by omega)
      have hd0 := ht.dp
      first | refine drawI (by decide +kernel) ?_ | refine drawO (by decide +kernel) ?_
      conv => whnf
      refine needV (u' := .rel 7004 i 0) (by omega) (by rw [Int.toNat_natCast]) ?_
      conv => whnf
      refine needV (u' := .rel 7004 i 0) (by omega) (by rw [Int.toNat_natCast]) ?_
      conv => whnf
      refine needV (u' := .rel 8801 j 0) (by omega) (by rw [li, Int.toNat_natCast]) ?_
      conv => whnf
      refine arI trivial (by omega) ?_
      conv => whnf
      refine needV (u' := .rel 8802 j 0) (by omega) (by rw [Int.toNat_natCast]) ?_
      conv => whnf
      refine arI trivial (by omega) ?_
      conv => whnf
      refine arI trivial (by omega) ?_
      conv => whnf
      refine arI (by omega) (by omega) ?_
      conv => whnf
      refine needV (u' := .rel 8801 j 0) (by omega) (by rw [li, Int.toNat_natCast]) ?_
      conv => whnf
      refine rowSetI (pvN t r s i j) (by rw [hv2]; rfl) ?_
      conv => whnf
      refine needV (u' := .rel 7004 i 0) (by omega) (by rw [Int.toNat_natCast]) ?_
      conv => whnf
      refine needV (u' := .rel 8801 j 0) (by omega) (by rw [li, Int.toNat_natCast]) ?_
      conv => whnf
      refine cmpI (fun g2 => ?_) (fun g2 => ?_) <;> conv => whnf
      · rw [hget] at g2
        have he := hend (hbad fun h => by unfold mostB at h; omega)
        exact ⟨he.1, .inr he.2⟩
      rw [hget] at g2
      refine needV (u' := .rel 7004 i 0) (by omega) (by rw [Int.toNat_natCast]) ?_
      conv => whnf
      refine needV (u' := .rel 8801 j 0) (by omega) (by rw [li, Int.toNat_natCast]) ?_
      conv => whnf
      refine cmpI (fun g3 => ?_) (fun g3 => ?_) <;> conv => whnf
      · rw [hget] at g3
        have he := hend (hbad fun h => by unfold mostB at h; omega)
        exact ⟨he.1, .inr he.2⟩
      rw [hget] at g3
      refine arI trivial (by omega) ?_
      conv => whnf
      refine ⟨j + 1, ?_, ⟨by omega, fun q hq => next q hq (by unfold mostB; omega)⟩, by dsimp only; omega⟩
      dsimp only
      rw [pvI_i, up, hset]
      exact tab_go f2 f2 [(8802, .old 8802), (8801, .old 8801)] hX2 (auto_)
end Go.Proofs.Ytgjmbmdaaahmkaa
