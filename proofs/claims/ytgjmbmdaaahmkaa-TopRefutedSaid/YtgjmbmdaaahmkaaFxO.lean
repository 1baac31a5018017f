
/-
  Contract: a new tableau, by the program.
-/
import Derived.Test.YtgjmbmdaaahmkaaFxN
set_option linter.unusedVariables false
set_option linter.unusedSimpArgs false
namespace Go.Proofs.Ytgjmbmdaaahmkaa
set_option maxRecDepth 100000
set_option maxHeartbeats 32000000

def frL (n : Nat) : List Int := (List.range n).map fun j : Nat => (j : Int)
theorem frL_up (k : Nat) : frL k ++ [(k : Int)] = frL (k + 1) := by simp [frL, List.range_succ]
theorem frL_len (k : Nat) : (frL k).length = k := by simp [frL]
def nwL (rows : List Row) : List (Nat × Blk) := [(7000, .row 42 row0 encRw rows)]
def nwF (n : Nat) (rows : List Row) (l : List Int) : List (Nat × Blk) := [(7000, .row 42 row0 encRw rows), (7001, .box 77 [.int .i64 n, .int .i64 1, .nilsl, .row 7003 l.length 1, .nilsl, .int .i64 (-1)]), (7003, .row 3 0 encI l)]
def nwB (n i : Nat) : List Int := (List.range i).map fun k : Nat => ((n : Int) + (k : Int))
def nwT (n : Nat) (rows : List Row) (i : Nat) : Tab := ⟨1, nwB n i, frL n, (rows.take i).map linT⟩
theorem nwT_all (n : Nat) (rows : List Row) : nwT n rows rows.length = newT n rows := by
  unfold nwT newT nwB frL
  rw [List.take_length]
/-- a ghost told beside: a row that is nil -/
theorem Retell.ghost {f : Nat → Option LM} {M M' : Mem} (h : Retell f M M') (g : Nat) (hg : f g = none) : Retell (fun x => if x = g then some (.nil 1) else f x) M (M'.set g (.row 3 (0 : Int) encI [])) := by
  refine ⟨fun x B' hB => ?_, fun x y hy => ?_, fun a b ℓ ha hb h1 h2 => ?_⟩
  · by_cases e : x = g
    · subst e
      rw [Mem.set_eq] at hB
      cases hB
      unfold tellG
      dsimp only
      rw [if_pos rfl]
      exact .inl ⟨_, _, _, _, rfl⟩
    · rw [Mem.set_ne _ _ e] at hB
      have := h.tell x B' hB
      unfold tellG at *
      dsimp only
      rw [if_neg e]
      revert this
      cases f x with
      | none => exact fun h => h
      | some y =>
        cases y with
        | nil _ => exact fun h => h
        | old ℓ =>
          rintro ⟨B, h1, h2⟩
          refine ⟨B, h1, h2.imp id fun h3 => ⟨h3.1, fun S F ρ w b hb => BlkRep.keep (h3.2 S F ρ w b hb) (Store.le_refl _) (fun y c hc => by
            unfold envG at hc ⊢
            have e2 : y ≠ g := fun e2 => by subst e2; rw [hg] at hc; cases hc
            dsimp only
            rw [if_neg e2]
            exact hc) (fun _ => ⟨rfl, rfl⟩)⟩⟩
  · by_cases e : x = g
    · subst e; rw [Mem.set_eq]; simp
    · rw [Mem.set_ne _ _ e]
      rw [if_neg e] at hy
      exact h.keys x y hy
  · by_cases e : a = g
    · subst e; rw [if_pos rfl] at ha; cases ha
    · by_cases e' : b = g
      · subst e'; rw [if_pos rfl] at hb; cases hb
      · rw [if_neg e] at ha
        rw [if_neg e'] at hb
        rw [Mem.set_ne _ _ e] at h1
        rw [Mem.set_ne _ _ e'] at h2
        exact h.olds a b ℓ ha hb h1 h2
def lmI : LMap := [(7001, .old 7001), (7002, .nil 1), (7003, .old 7003), (7004, .nil 1), (7000, .old 7000)]
theorem nw_ini {n : Nat} {rows : List Row} {fr fr' : List AV} (hf : avRs lmI 400 fr fr') : Sub [7000] fr (Mem.ofL (nwF n rows (frL n))) fr' (tabN n (nwT n rows 0) 0 (-1) 10000 [] (nwL rows) (tabC (nwT n rows 0))) := by
  refine Sub.fam lmI (tabG n (nwT n rows 0) 0 (-1) 10000 [] ++ nwL rows) _ (fun _ => none) 400 rfl (auto_) (fun ℓ' t g' m hmem => ?_) ⟨fun x B' hB => ?_, fun x o hx => (by cases hx), fun x y o hx => (by cases hx), fun x o k hx => (by cases hx)⟩ (fun d hd => ?_) hf
  · simp only [tabG, nwL, List.cons_append, List.nil_append, List.mem_cons, Prod.mk.injEq, List.not_mem_nil, or_false] at hmem
    rcases hmem with ⟨_, h⟩ | ⟨_, h⟩ | ⟨_, h⟩ | ⟨rfl, h⟩ | ⟨_, h⟩
    · cases h
    · cases h
    · cases h
    · injection h with h1 h2 h3
    · cases h
  · unfold rowsN at hB
    cases hs : sgF 10000 0 [] x with
    | none => rw [hs] at hB; cases hB
    | some k => exact absurd (sgF_some (a := []) trivial hs).1 (Nat.not_lt_zero _)
  · simp only [List.mem_cons, List.not_mem_nil, or_false] at hd
    subst hd
    rfl
theorem tab_retell2 {M : Mem} {n m : Nat} {t : Tab} {bad : Int} {p : Nat} {a : List (Nat × Nat)} {E : List (Nat × Blk)} {c : Nat → List Int} (lm : LMap) (lab : Nat → Nat) (hw : focB p m a) (hE : lowL E = true) (hlow : lowM lm = true) (hEh : noH E) (h4 : lmFind lm 7004 = some (.old 7004))
    (hs : (keysB lm (tabG n t m bad p a ++ E) && oldsL (tabG n t m bad p a ++ E) lm) = true) (hm : memH lm 400 M (tabG n t m bad p a ++ E))
    (hg : ∃ g, M 7004 = some (.hdr 28 g m) ∧ ∀ k, k < m → g k = [.row (lab k) (n + 1) 1]) (hrow : ∀ k, k < m → M (lab k) = some (.row 3 0 encI (c k)))
    (hlab : ∀ k k', k < m → k' < m → lab k = lab k' → k = k') (hfar : ∀ k, k < m → ∀ y, lmFind lm y ≠ some (.old (lab k))) :
    Retell (famF lm fun x => (sgF p m a x).map lab) M (tabN n t m bad p a E c) := by
  refine retell_mat lm (tabG n t m bad p a ++ E) 400 7004 28 3 (n + 1) m c (sgF p m a) lab (lbF p a) hs hm (fun ℓ t0 g m' hmem => ?_) h4 hg hrow (fun x k hx => ?_) (fun x y k hx hy => ?_) (fun k hk => sgF_lb hw.1 hk) hlab (fun k hk y hy => absurd hy (hfar k hk y))
  · rcases List.mem_append.1 hmem with h | h
    · unfold tabG at h
      simp only [List.mem_cons, Prod.mk.injEq, List.not_mem_nil, or_false] at h
      rcases h with ⟨_, h⟩ | ⟨_, h⟩ | ⟨_, h⟩ | ⟨h1, h⟩
      · cases h
      · cases h
      · cases h
      · injection h with e1 e2 e3
        subst e1; subst e2; subst e3
        exact ⟨h1, rfl, rfl, fun k _ => rfl⟩
    · exact (noH_mem hEh _ _ _ _ h).elim
  · have := hw.key hx
    exact ⟨(sgF_some hw.1 hx).1, lowM_key hlow (by omega), lowL_far (tabG_low hE) (by omega)⟩
  · rw [← (sgF_some hw.1 hx).2, (sgF_some hw.1 hy).2]
def nwS (n : Nat) (rows : List Row) (i : Nat) : Tab := { nwT n rows i with bas := (nwT n rows i).bas ++ [(n : Int) + (i : Int)] }
theorem nwB_up (n i : Nat) : nwB n i ++ [(n : Int) + (i : Int)] = nwB n (i + 1) := by simp [nwB, List.range_succ]
def nwE (rows : List Row) (r : Row) : List (Nat × Blk) := nwL rows ++ [(55, .row 3 0 encI (linT r))]
def lmJ : LMap := [(7001, .old 7001), (7002, .old 47), (7003, .old 7003), (7004, .old 7004), (7000, .old 7000), (55, .old 55)]
def lmK : LMap := [(7001, .old 7001), (7002, .old 7002), (7003, .old 7003), (7004, .old 7004), (7000, .old 7000), (55, .old 55)]
theorem retell_mat3 {M : Mem} (hd' : Nat) (lm : LMap) (L : List (Nat × Blk)) (n : Nat) (hd : Nat) (t0 ti : TypeId) (w m : Nat) (c : Nat → List Int) (σ : Nat → Option Nat) (lab lab' : Nat → Nat)
    (hs : (keysB lm L && oldsL L lm) = true) (hm : memH lm n M L) (hL : ∀ ℓ t g m', (ℓ, Blk.hdr t g m') ∈ L → ℓ = hd ∧ t = t0 ∧ m' = m ∧ ∀ k, k < m → g k = [.row (lab' k) w 1])
    (h4 : lmFind lm hd = some (.old hd')) (hg : ∃ g, M hd' = some (.hdr t0 g m) ∧ ∀ k, k < m → g k = [.row (lab k) w 1]) (hrow : ∀ k, k < m → M (lab k) = some (.row ti 0 encI (c k)))
    (hσ1 : ∀ x k, σ x = some k → k < m ∧ lmFind lm x = none ∧ Mem.ofL L x = none) (hσ2 : ∀ x y k, σ x = some k → σ y = some k → x = y) (hσ3 : ∀ k, k < m → σ (lab' k) = some k)
    (hlab : ∀ k k', k < m → k' < m → lab k = lab k' → k = k') (hfar : ∀ k, k < m → ∀ y, lmFind lm y = some (.old (lab k)) → Mem.ofL L y = some .dead) :
    Retell (famF lm fun x => (σ x).map lab) M (overM L (rowsN ti σ c)) := by
  refine retell_fam lm L _ _ n hs hm (fun ℓ t g m' hmem => ?_) ⟨fun x B' hB => ?_, fun x o hx => ?_, fun x y o hx hy _ _ => ?_, fun x o k hx _ hk => ?_⟩
  · obtain ⟨rfl, rfl, rfl, hgg⟩ := hL ℓ t g m' hmem
    unfold hdrG
    rw [h4]
    obtain ⟨g0, h1, h2⟩ := hg
    refine ⟨g0, h1, fun i hi => ?_⟩
    rw [h2 i hi, hgg i hi]
    refine TellL.one (TellA.row (famF_ψ (hσ1 _ _ (hσ3 i hi)).2.1 ?_))
    rw [hσ3 i hi]; rfl
  · unfold rowsN at hB
    split at hB
    · rename_i k hk
      cases hB
      obtain ⟨h1, h2, h3⟩ := hσ1 x k hk
      refine ⟨h2, h3, lab k, _, by rw [hk]; rfl, hrow k h1, .inr ⟨rfl, rfl⟩⟩
    · cases hB
  · unfold rowsN
    cases hσx : σ x with
    | none => rw [hσx] at hx; cases hx
    | some k => simp
  · cases h1 : σ x with
    | none => rw [h1] at hx; cases hx
    | some k =>
      cases h2 : σ y with
      | none => rw [h2] at hy; cases hy
      | some k' =>
        rw [h1] at hx
        rw [h2] at hy
        simp only [Option.map_some, Option.some.injEq] at hx hy
        have := hlab k k' (hσ1 x k h1).1 (hσ1 y k' h2).1 (hx.trans hy.symm)
        subst this
        exact hσ2 x y k h1 h2
  · cases h1 : σ x with
    | none => rw [h1] at hx; cases hx
    | some i =>
      rw [h1] at hx
      simp only [Option.map_some, Option.some.injEq] at hx
      subst hx
      exact hfar i (hσ1 x i h1).1 k hk
theorem tab_retell3 {M : Mem} (hd' : Nat) {n m : Nat} {t : Tab} {bad : Int} {p : Nat} {a : List (Nat × Nat)} {E : List (Nat × Blk)} {c : Nat → List Int} (lm : LMap) (lab : Nat → Nat) (hw : focB p m a) (hE : lowL E = true) (hlow : lowM lm = true) (hEh : noH E) (h4 : lmFind lm 7004 = some (.old hd'))
    (hs : (keysB lm (tabG n t m bad p a ++ E) && oldsL (tabG n t m bad p a ++ E) lm) = true) (hm : memH lm 400 M (tabG n t m bad p a ++ E))
    (hg : ∃ g, M hd' = some (.hdr 28 g m) ∧ ∀ k, k < m → g k = [.row (lab k) (n + 1) 1]) (hrow : ∀ k, k < m → M (lab k) = some (.row 3 0 encI (c k)))
    (hlab : ∀ k k', k < m → k' < m → lab k = lab k' → k = k') (hfar : ∀ k, k < m → ∀ y, lmFind lm y ≠ some (.old (lab k))) :
    Retell (famF lm fun x => (sgF p m a x).map lab) M (tabN n t m bad p a E c) := by
  refine retell_mat3 hd' lm (tabG n t m bad p a ++ E) 400 7004 28 3 (n + 1) m c (sgF p m a) lab (lbF p a) hs hm (fun ℓ t0 g m' hmem => ?_) h4 hg hrow (fun x k hx => ?_) (fun x y k hx hy => ?_) (fun k hk => sgF_lb hw.1 hk) hlab (fun k hk y hy => absurd hy (hfar k hk y))
  · rcases List.mem_append.1 hmem with h | h
    · unfold tabG at h
      simp only [List.mem_cons, Prod.mk.injEq, List.not_mem_nil, or_false] at h
      rcases h with ⟨_, h⟩ | ⟨_, h⟩ | ⟨_, h⟩ | ⟨h1, h⟩
      · cases h
      · cases h
      · cases h
      · injection h with e1 e2 e3
        subst e1; subst e2; subst e3
        exact ⟨h1, rfl, rfl, fun k _ => rfl⟩
    · exact (noH_mem hEh _ _ _ _ h).elim
  · have := hw.key hx
    exact ⟨(sgF_some hw.1 hx).1, lowM_key hlow (by omega), lowL_far (tabG_low hE) (by omega)⟩
  · rw [← (sgF_some hw.1 hx).2, (sgF_some hw.1 hy).2]
def lmZ : LMap := [(7001, .old 7001), (7002, .old 7002), (7003, .old 7003), (7004, .old 76), (7000, .old 7000)]
def labZ (i k : Nat) : Nat := match Nat.blt k i with
  | true => 10000 + k
  | false => 55
theorem labZ_lt {i k : Nat} (h : k < i) : labZ i k = 10000 + k := by
  unfold labZ
  have : Nat.blt k i = true := by simp only [Nat.blt, Nat.ble_eq]; omega
  rw [this]
theorem labZ_ge {i k : Nat} (h : ¬ k < i) : labZ i k = 55 := by
  unfold labZ
  have : Nat.blt k i = false := by
    cases hb : Nat.blt k i with
    | false => rfl
    | true => simp only [Nat.blt, Nat.ble_eq] at hb; omega
  rw [this]
theorem tabC_nwT {n : Nat} {rows : List Row} {i k : Nat} (hk : k < i) (hi : i ≤ rows.length) : tabC (nwT n rows i) k = linT (rows.getD k row0) := by
  unfold tabC nwT
  dsimp only
  rw [getD_elem [] (by simp; omega), getD_elem row0 (show k < rows.length by omega)]
  simp
theorem nw_next {n : Nat} {rows : List Row} {i : Nat} {c : Nat → List Int} : tabN n (nwT n rows (i + 1)) (i + 1) (-1) 10000 [] (nwL rows) c = tabN n (nwS n rows i) (i + 1) (-1) 10000 [] (nwL rows) c := by
  have eb : (nwT n rows (i + 1)).bas = (nwS n rows i).bas := (nwB_up n i).symm
  unfold tabN tabG
  rw [eb]
  rfl
def nwA (n : Nat) (rows : List Row) (u : AV) (M' : Mem) : Prop :=
  (newB rows ∧ u = .tup [.ptr 7001 0, .bool true] ∧ M' = tabN n (newT n rows) rows.length (-1) 10000 [] (nwL rows) (tabC (newT n rows))) ∨ (¬ newB rows ∧ ∃ x, u = .tup [x, .bool false] ∧ M' 7000 = some (.row 42 row0 encRw rows))
theorem newTableauF (n : Nat) (rows : List Row) (hn : n ≤ 1000) (hl : rows.length ≤ 10000) (hw : ∀ i, i < rows.length → (rows.getD i row0).coef.length = n) :
    Spec Try.prog 26 [.int .i64 n, .row 7000 rows.length 2] (Mem.ofL (nwL rows)) (fun u M' => nwA n rows u M') := by
  refine Spec.intro tt_ok mx_ok (nwL rows) Try.func26 rfl (by decide) ?_
  conv => whnf
  refine boxL ?_
  conv => whnf
  refine WPc.loopF tt_ok mx_ok (fun k : Nat => k ≤ n) (fun k => [(17, .int .i64 (k : Int)), (6, .ptr 7001 0), (15, .ptr 7001 0)]) (fun k => nwF n rows (frL k)) (fun k => n - k) 0 (Nat.zero_le _) ?_; conv => whnf
  refine ⟨Sub.by_ [(7000, .old 7000), (7001, .old 15), (7003, .nil 1)] _ 400 rfl (auto_) (auto_), ?_⟩
  rintro k hk
  have hfl := frL_len k
  conv => whnf
  refine cmpI (fun h1 => ?_) (fun h1 => ?_) <;> conv => whnf
  · have hlt : k < n := by omega
    first | refine drawG (by decide +kernel) ?_ | skip
    conv => whnf
    first | refine leakN ?_ | skip
    conv => whnf
    refine appI [(k : Int)] rfl (by simp only [List.length_cons, List.length_nil]; omega) ?_
    conv => whnf
    repeat' ((first|refine nI ?_|refine aI ?_|refine arU trivial (by omega) ?_|refine arB trivial (by omega) ?_|refine dI ?_|refine dR ?_|refine dP ?_|refine boxP rfl ?_|refine pI _ rfl ?_|refine rowSetI _ rfl ?_|refine tI ?_|refine fI ?_|refine cmpI (fun _ => ?_) (fun _ => ?_)) <;> conv => whnf)
    refine ⟨k + 1, ?_, by omega, by dsimp only; omega⟩
    dsimp only
    rw [← frL_up]
    exact Sub.by_ [(7000, .old 7000), (7001, .old 7001), (7003, .old 27)] _ 400 rfl (auto_) (auto_)
  · obtain rfl : n = k := by omega
    refine WPc.loopM tt_ok mx_ok (fun i : Nat => i ≤ rows.length ∧ ∀ q, q < i → ∀ j, j < (linT (rows.getD q row0)).length → mostB ((linT (rows.getD q row0)).getD j 0)) (fun i => [(33, .int .i64 (i : Int))]) (fun i => tabN n (nwT n rows i) i (-1) 10000 [] (nwL rows) (tabC (nwT n rows i))) (fun i => rows.length - i) 0 ⟨Nat.zero_le _, fun q hq => absurd hq (Nat.not_lt_zero _)⟩ ?_
    conv => whnf
    refine ⟨?_, ?_⟩
    · show Sub _ _ _ _ _
      exact nw_ini (auto_)
    rintro i ⟨hi, ha⟩
    by_cases hlt : i < rows.length
    · refine codeFR ?_
      conv => whnf
      refine cmpT (by omega) ?_
      conv => whnf
      refine needI (by omega) ?_
      rw [Int.toNat_natCast]
      conv => whnf
      refine arI trivial (by omega) ?_
      conv => whnf
      have hbl : (nwT n rows i).bas.length = i := by simp [nwT, nwB]
      refine appI [(n : Int) + (i : Int)] rfl (by simp only [List.length_cons, List.length_nil]; omega) ?_
      conv => whnf
      have hwi := hw i hlt
      refine appI (rows.getD i row0).coef rfl (by simp only [List.length_cons, List.length_nil]; omega) ?_
      conv => whnf
      refine WPc.loopM tt_ok mx_ok (fun j : Nat => j ≤ (linT (rows.getD i row0)).length ∧ ∀ q, q < j → mostB ((linT (rows.getD i row0)).getD q 0)) (fun j => [(58, .int .i64 (j : Int)), (9, .top), (42, .top), (46, .top), (47, .top), (50, .top), (52, .top), (53, .top)]) (fun _ => (tabN n (nwS n rows i) i (-1) 10000 [] (nwE rows (rows.getD i row0)) (tabC (nwT n rows i))).set 9999 (.row 3 (0 : Int) encI [])) (fun j => (linT (rows.getD i row0)).length - j) 0 ⟨Nat.zero_le _, fun q hq => absurd hq (Nat.not_lt_zero _)⟩ ?_
      conv => whnf
      refine ⟨?_, ?_⟩
      · show Sub _ _ _ _ _
        refine Sub.gen _ (Retell.ghost (tab_retell2 (E := nwE rows (rows.getD i row0)) (c := tabC (nwT n rows i)) lmJ (fun k => 10000 + k) (foc0 (by decide)) rfl rfl trivial rfl rfl (by
          have e : (nwS n rows i).bas.length = (nwT n rows i).bas.length + [(n : Int) + (i : Int)].length := List.length_append
          unfold tabG
          rw [e]
          repeat' (first | exact True.intro | exact rfl | (refine And.intro ?_ ?_) | ((conv => whnf); omega) | ((conv => whnf); simp only [List.length_append, List.length_cons, List.length_nil]; done) | ((conv => whnf); simp only [List.length_append, List.length_cons, List.length_nil]; omega))) ⟨_, rfl, fun k _ => rfl⟩ (fun k hk => ?_) (fun k k' _ _ h => Nat.add_left_cancel h) (fun k hk y hy => ?_)) 9999 ?_) (fun d hd => ?_) (TellL.by_ (lm := lmJ) 400 ?_ (auto_))
        · rw [Mem.set_ne _ _ (by omega), Mem.set_ne _ _ (by omega), Mem.set_ne _ _ (by omega), Mem.set_ne _ _ (by omega), Mem.set_ne _ _ (by omega), Mem.set_ne _ _ (by omega), Mem.set_ne _ _ (by omega), Mem.set_ne _ _ (by omega), Mem.set_ne _ _ (by omega)]
          exact tabN_row (a := []) rfl (foc0 (by decide)) hk
        · have h5 := lowM_old (lm := lmJ) rfl hy
          omega
        · rfl
        · simp only [nwL, List.map_cons, List.map_nil, List.mem_cons, List.not_mem_nil, or_false] at hd
          subst hd
          rfl
        · intro k y hky
          have hk5 : ¬ 7005 ≤ k := fun h => by rw [lowM_key (lm := lmJ) rfl h] at hky; cases hky
          rw [if_neg (by omega)]
          exact famF_lm k y hky
      · rintro j ⟨hj, hb⟩
        have hln : (linT (rows.getD i row0)).length = 1 + (rows.getD i row0).coef.length := by simp [linT]; omega
        by_cases hjl : j < (linT (rows.getD i row0)).length
        · refine codeFR ?_
          conv => whnf
          refine cmpT (by omega) ?_
          conv => whnf
          refine needI (by omega) ?_
          rw [Int.toNat_natCast]
          conv => whnf
          have hnb : ¬ mostB ((linT (rows.getD i row0)).getD j 0) → ¬ newB rows := fun h1 h2 => h1 (h2 i hlt j hjl)
          refine cmpI (fun g1 => ?_) (fun g1 => ?_) <;> conv => whnf
          · exact .inr ⟨hnb (fun h => by unfold mostB at h; omega), _, rfl, rfl⟩
          · refine cmpI (fun g2 => ?_) (fun g2 => ?_) <;> conv => whnf
            · exact .inr ⟨hnb (fun h => by unfold mostB at h; omega), _, rfl, rfl⟩
            · refine arI trivial (by omega) ?_
              conv => whnf
              refine ⟨j + 1, ?_, ⟨by omega, fun q hq => ?_⟩, by dsimp only; omega⟩
              · refine Sub.gen _ (Retell.ghost (tab_retell2 (E := nwE rows (rows.getD i row0)) (c := tabC (nwT n rows i)) lmK (fun k => 10000 + k) (foc0 (by decide)) rfl rfl trivial rfl rfl (auto_) ⟨_, rfl, fun k _ => rfl⟩ (fun k hk => ?_) (fun k k' _ _ h => Nat.add_left_cancel h) (fun k hk y hy => ?_)) 9999 ?_) (fun d hd => ?_) (TellL.by_ (lm := lmK) 400 ?_ (auto_))
                · rw [Mem.set_ne _ _ (by omega)]
                  exact tabN_row (a := []) rfl (foc0 (by decide)) hk
                · have h5 := lowM_old (lm := lmK) rfl hy
                  omega
                · rfl
                · simp only [nwL, List.map_cons, List.map_nil, List.mem_cons, List.not_mem_nil, or_false] at hd
                  subst hd
                  rfl
                · intro k y hky
                  have hk5 : ¬ 7005 ≤ k := fun h => by rw [lowM_key (lm := lmK) rfl h] at hky; cases hky
                  rw [if_neg (by omega)]
                  exact famF_lm k y hky
              · by_cases e : q = j
                · subst e; unfold mostB; omega
                · exact hb q (by omega)
        · refine codeFR ?_
          conv => whnf
          refine cmpF (by omega) ?_
          conv => whnf
          refine needI (by show (i + 1) * 24 ≤ 140737488355328; omega) ?_
          conv => whnf
          refine arI trivial (by omega) ?_
          conv => whnf
          refine ⟨i + 1, ?_, ⟨by omega, fun q hq j hj => ?_⟩, by dsimp only; omega⟩
          · dsimp only
            rw [nw_next]
            refine Sub.gen _ (tab_retell3 (E := nwL rows) (c := tabC (nwT n rows (i + 1))) 76 lmZ (labZ i) (foc0 (by decide)) rfl rfl trivial rfl rfl (auto_) ⟨_, rfl, fun k hk => ?_⟩ (fun k hk => ?_) (fun k k' hk hk' h => ?_) (fun k hk y hy => ?_)) (fun d hd => ?_) (TellL.by_ (lm := lmZ) 400 (fun k y h => famF_lm k y h) (auto_))
            · unfold labZ
              cases Nat.blt k i with
              | true => rfl
              | false =>
                show [AV.row 55 (1 + (rows.getD i row0).coef.length) 1] = [AV.row 55 (n + 1) 1]
                rw [hwi, Nat.add_comm]
            · by_cases e : k < i
              · rw [labZ_lt e, tabC_nwT (by omega) (by omega), ← tabC_nwT (n := n) e (by omega), Mem.set_ne _ _ (by omega), Mem.set_ne _ _ (by omega), Mem.set_ne _ _ (by omega), Mem.set_ne _ _ (by omega), Mem.set_ne _ _ (by omega)]
                exact tabN_row (a := []) rfl (foc0 (by decide)) e
              · rw [labZ_ge e, tabC_nwT (by omega) (by omega)]
                obtain rfl : i = k := by omega
                rfl
            · by_cases e : k < i <;> by_cases e' : k' < i
              · rw [labZ_lt e, labZ_lt e'] at h; omega
              · rw [labZ_lt e, labZ_ge e'] at h; omega
              · rw [labZ_ge e, labZ_lt e'] at h; omega
              · omega
            · have hmem := lmFind_mem hy
              unfold lmZ at hmem
              simp only [List.mem_cons, Prod.mk.injEq, List.not_mem_nil, or_false, LM.old.injEq] at hmem
              by_cases e : k < i
              · rw [labZ_lt e] at hmem; omega
              · rw [labZ_ge e] at hmem; omega
            · simp only [nwL, List.map_cons, List.map_nil, List.mem_cons, List.not_mem_nil, or_false] at hd
              subst hd
              rfl
          · by_cases e : q = i
            · subst e
              exact hb j (by omega)
            · exact ha q (by omega) j hj
    · obtain rfl : rows.length = i := by omega
      refine codeFR ?_
      conv => whnf
      refine cmpF (by omega) ?_
      conv => whnf
      rw [nwT_all]
      exact .inl ⟨fun q hq j hj => ha q hq j hj, rfl, rfl⟩
end Go.Proofs.Ytgjmbmdaaahmkaa
