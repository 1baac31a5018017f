
/-
  The solver's tableau plainly: its moves, and what stays true of it.
-/
import Derived.Test.YtgjmbmdaaahmkaaFvB
import Derived.Test.YtgjmbmdaaahmkaaFuC
set_option linter.unusedVariables false
set_option linter.unusedSimpArgs false
namespace Go.Proofs.Ytgjmbmdaaahmkaa
set_option maxRecDepth 100000
set_option maxHeartbeats 8000000

structure Tab where
  den : Int
  bas : List Int
  fre : List Int
  cel : List (List Int)
def cl (t : Tab) (i j : Nat) : Int := (t.cel.getD i []).getD j 0
def mostB (n : Int) : Prop := -1073741824 ≤ n ∧ n ≤ 1073741824
instance (n : Int) : Decidable (mostB n) := inferInstanceAs (Decidable (_ ∧ _))
def linT (r : Row) : List Int := r.const :: r.coef
def newB (rows : List Row) : Prop := ∀ i, i < rows.length → ∀ j, j < (linT (rows.getD i row0)).length → mostB ((linT (rows.getD i row0)).getD j 0)
instance (rows : List Row) : Decidable (newB rows) := inferInstanceAs (Decidable (∀ i, i < rows.length → _))
def newT (n : Nat) (rows : List Row) : Tab := ⟨1, (List.range rows.length).map fun i : Nat => ((n : Int) + (i : Int)), (List.range n).map fun j : Nat => (j : Int), rows.map linT⟩
/-- the row that leaves, of the first k -/
def lvK (t : Tab) : Nat → Int
  | 0 => -1
  | k + 1 => if cl t k 0 < 0 ∧ (lvK t k < 0 ∨ t.bas.getD k 0 < t.bas.getD (lvK t k).toNat 0) then (k : Int) else lvK t k
/-- the column that enters for a row, of the first k -/
def enK (t : Tab) (r : Nat) : Nat → Int
  | 0 => -1
  | k + 1 => if 0 < cl t r (k + 1) ∧ (enK t r k < 0 ∨ t.fre.getD k 0 < t.fre.getD (enK t r k).toNat 0) then (k : Int) else enK t r k
def pvN (t : Tab) (r s i j : Nat) : Int := if j = s + 1 then cl t i (s + 1) else (cl t r (s + 1) * cl t i j - cl t i (s + 1) * cl t r j).tdiv t.den
def pvB (m n : Nat) (t : Tab) (r s : Nat) : Prop := ∀ i, i < m → i ≠ r → ∀ j, j < n + 1 → mostB (pvN t r s i j)
instance (m n : Nat) (t : Tab) (r s : Nat) : Decidable (pvB m n t r s) := inferInstanceAs (Decidable (∀ i, i < m → _))
def pvT (m n : Nat) (t : Tab) (r s : Nat) : Tab :=
  ⟨cl t r (s + 1), t.bas.set r (t.fre.getD s 0), t.fre.set s (t.bas.getD r 0),
   (List.range m).map fun i => (List.range (n + 1)).map fun j => if i = r then (if j = s + 1 then t.den else - cl t r j) else pvN t r s i j⟩
/-- at most so many pivots: the tableau at the end, and the row that can't be raised (-1: there is none) -/
def slT (m n : Nat) : Nat → Tab → Option (Tab × Int)
  | 0, _ => none
  | k + 1, t =>
    if lvK t m < 0 then some (t, -1)
    else if enK t (lvK t m).toNat n < 0 then some (t, lvK t m)
    else if pvB m n t (lvK t m).toNat (enK t (lvK t m).toNat n).toNat then slT m n k (pvT m n t (lvK t m).toNat (enK t (lvK t m).toNat n).toNat)
    else none

/-! ### what stays true -/
def colV (n : Nat) (rows : List Row) (z : Int) : Nat → Int := fun l => if z < n then - (rows.getD l row0).coef.getD z.toNat 0 else if z = (n : Int) + (l : Int) then 1 else 0
def colF (n : Nat) (rows : List Row) (t : Tab) : Cl := fun j => match j with
  | 0 => fun l => - (rows.getD l row0).const
  | j + 1 => colV n rows (t.fre.getD j 0)
def colB (n : Nat) (rows : List Row) (t : Tab) : Cl := fun k => colV n rows (t.bas.getD k 0)
structure TabOk (m n : Nat) (rows : List Row) (t : Tab) : Prop where
  rl : rows.length = m
  bl : t.bas.length = m
  fl : t.fre.length = n
  cm : t.cel.length = m
  cn : ∀ i, i < m → (t.cel.getD i []).length = n + 1
  dp : 0 < t.den ∧ t.den ≤ 1073741824
  cb : ∀ i j, i < m → j < n + 1 → mostB (cl t i j)
  pm : (t.bas ++ t.fre).Perm ((List.range (n + m)).map fun z : Nat => (z : Int))
  tb : Tbl m (n + 1) (colB n rows t) (colF n rows t) (cl t) t.den
theorem cl_mk {m n : Nat} {f : Nat → Nat → Int} {d : Int} {a b : List Int} {i j : Nat} (hi : i < m) (hj : j < n) : cl ⟨d, a, b, (List.range m).map fun i => (List.range n).map fun j => f i j⟩ i j = f i j := by
  unfold cl
  simp [List.getD_eq_getElem?_getD, hi, hj]
theorem lvK_rng (t : Tab) : ∀ k, -1 ≤ lvK t k ∧ lvK t k < k
  | 0 => by simp [lvK]
  | k + 1 => by
    have := lvK_rng t k
    rw [lvK]; split <;> omega
theorem lvK_neg (t : Tab) : ∀ k, 0 ≤ lvK t k → cl t (lvK t k).toNat 0 < 0
  | 0, h => by simp [lvK] at h
  | k + 1, h => by
    rw [lvK] at h ⊢
    split
    · rename_i hc; rw [Int.toNat_natCast]; exact hc.1
    · rename_i hc; rw [if_neg hc] at h; exact lvK_neg t k h
theorem lvK_none (t : Tab) : ∀ k, lvK t k < 0 → ∀ i, i < k → 0 ≤ cl t i 0
  | 0, _, i, hi => by omega
  | k + 1, h, i, hi => by
    rw [lvK] at h
    split at h
    · omega
    · rename_i hc
      by_cases e : i = k
      · subst e; exact Int.not_lt.1 fun h1 => hc ⟨h1, .inl h⟩
      · exact lvK_none t k h i (by omega)
theorem enK_rng (t : Tab) (r : Nat) : ∀ k, -1 ≤ enK t r k ∧ enK t r k < k
  | 0 => by simp [enK]
  | k + 1 => by
    have := enK_rng t r k
    rw [enK]; split <;> omega
theorem enK_pos (t : Tab) (r : Nat) : ∀ k, 0 ≤ enK t r k → 0 < cl t r ((enK t r k).toNat + 1)
  | 0, h => by simp [enK] at h
  | k + 1, h => by
    rw [enK] at h ⊢
    split
    · rename_i hc; rw [Int.toNat_natCast]; exact hc.1
    · rename_i hc; rw [if_neg hc] at h; exact enK_pos t r k h
theorem enK_none (t : Tab) (r : Nat) : ∀ k, enK t r k < 0 → ∀ j, j < k → cl t r (j + 1) ≤ 0
  | 0, _, i, hi => by omega
  | k + 1, h, i, hi => by
    rw [enK] at h
    split at h
    · omega
    · rename_i hc
      by_cases e : i = k
      · subst e; exact Int.not_lt.1 fun h1 => hc ⟨h1, .inl h⟩
      · exact enK_none t r k h i (by omega)
theorem new_ok {n : Nat} {rows : List Row} (hw : ∀ i, i < rows.length → (rows.getD i row0).coef.length = n) (hb : newB rows) : TabOk rows.length n rows (newT n rows) := by
  have hcel : ∀ i, i < rows.length → (newT n rows).cel.getD i [] = linT (rows.getD i row0) := by
    intro i hi
    unfold newT
    dsimp only
    rw [getD_elem [] (by simpa using hi), List.getElem_map, getD_elem row0 hi]
  have hbas : ∀ i, i < rows.length → (newT n rows).bas.getD i 0 = (n : Int) + (i : Int) := by
    intro i hi
    unfold newT
    dsimp only
    rw [getD_elem 0 (by simpa using hi), List.getElem_map, List.getElem_range]
  have hfre : ∀ j, j < n → (newT n rows).fre.getD j 0 = (j : Int) := by
    intro j hj
    unfold newT
    dsimp only
    rw [getD_elem 0 (by simpa using hj), List.getElem_map, List.getElem_range]
  refine ⟨rfl, by simp [newT], by simp [newT], by simp [newT], fun i hi => ?_, by simp [newT], fun i j hi hj => ?_, ?_, ?_⟩
  · rw [hcel i hi, linT, List.length_cons, hw i hi]
  · unfold cl
    rw [hcel i hi]
    exact hb i hi j (by rw [linT, List.length_cons, hw i hi]; omega)
  · have e : (List.range (n + rows.length)).map (fun z : Nat => (z : Int)) = (newT n rows).fre ++ (newT n rows).bas := by
      unfold newT
      dsimp only
      rw [List.range_add, List.map_append, List.map_map]
      congr 1
    rw [e]
    exact List.perm_append_comm
  · have hcol : ∀ k, k < rows.length → ∀ l, l < rows.length → colB n rows (newT n rows) k l = uniZ k l := by
      intro k hk l hl
      unfold colB colV uniZ
      rw [hbas k hk, if_neg (by omega)]
      by_cases e : k = l
      · rw [if_pos (by omega), if_pos e]
      · rw [if_neg (by omega), if_neg e]
    refine ⟨fun j hj l hl => ?_, .inl ?_, by simp [newT]⟩
    · rw [sumZ_one (r := l) hl]
      · rw [hcol l hl l hl]
        unfold uniZ cl
        rw [hcel l hl, if_pos rfl]
        show (1 : Int) * _ = _
        cases j with
        | zero => simp [colF, linT]
        | succ j =>
          have : colF n rows (newT n rows) (j + 1) l = - (rows.getD l row0).coef.getD j 0 := by
            show colV n rows _ l = _
            rw [hfre j (by omega)]
            unfold colV
            rw [if_pos (by omega), Int.toNat_natCast]
          rw [this]
          simp [linT]
      · intro i hi hne
        rw [hcol i hi l hl]
        unfold uniZ
        rw [if_neg hne, Int.mul_zero]
    · show (1 : Int) = _
      rw [det_ext _ _ uniZ fun k c hk hc => hcol k hk c hc, det_uni]
theorem swap_perm {a b : List Int} {r s : Nat} (hr : r < a.length) (hs : s < b.length) : (a.set r (b.getD s 0) ++ b.set s (a.getD r 0)).Perm (a ++ b) := by
  have e : a.set r (b.getD s 0) ++ b.set s (a.getD r 0) = ((a ++ b).set r (b.getD s 0)).set (a.length + s) (a.getD r 0) := by
    rw [List.set_append_left _ _ hr, List.set_append_right _ _ (by simp), List.length_set, Nat.add_sub_cancel_left]
  have h1 : (a ++ b)[r]'(by simp; omega) = a.getD r 0 := by rw [List.getElem_append_left hr, getD_elem 0 hr]
  have h2 : (a ++ b)[a.length + s]'(by simp; omega) = b.getD s 0 := by
    rw [List.getElem_append_right (by omega), getD_elem 0 hs]
    congr 1; omega
  rw [e, ← h1, ← h2]
  exact List.set_set_perm (by simp; omega) (by simp; omega)
theorem piv_ok {m n : Nat} {rows : List Row} {t : Tab} (h : TabOk m n rows t) {r s : Nat} (hr : r < m) (hs : s < n) (hp : 0 < cl t r (s + 1)) (hb : pvB m n t r s) : TabOk m n rows (pvT m n t r s) := by
  have hcl : ∀ i j, i < m → j < n + 1 → cl (pvT m n t r s) i j = if i = r then (if j = s + 1 then t.den else - cl t r j) else pvN t r s i j := fun i j hi hj => cl_mk hi hj
  have hcr := h.cb r (s + 1) hr (by omega)
  refine ⟨h.rl, by simp [pvT, h.bl], by simp [pvT, h.fl], by simp [pvT], fun i hi => ?_, ⟨hp, hcr.2⟩, fun i j hi hj => ?_, ?_, ?_⟩
  · unfold pvT
    dsimp only
    rw [getD_elem [] (by simpa using hi), List.getElem_map]
    simp
  · rw [hcl i j hi hj]
    split
    · split
      · have := h.dp; unfold mostB; omega
      · have := h.cb r j hr hj; unfold mostB at *; omega
    · rename_i hne
      exact hb i hi hne j hj
  · exact (swap_perm (by rw [h.bl]; exact hr) (by rw [h.fl]; exact hs)).trans h.pm
  · have hex : ∀ i j, i < m → j < n + 1 → i ≠ r → j ≠ s + 1 → cl t r (s + 1) * cl t i j - cl t i (s + 1) * cl t r j = t.den * pvN t r s i j := by
      intro i j hi hj h1 h2
      obtain ⟨e, he⟩ := h.tb.exact hr (show s + 1 < n + 1 by omega) hi hj h1
      unfold pvN
      rw [if_neg h2, he, Int.mul_tdiv_cancel_left _ (by have := h.dp; omega)]
    have := h.tb.pivot hr (show s + 1 < n + 1 by omega) (by omega) hex
    have eB : updZ (colB n rows t) r (colF n rows t (s + 1)) = colB n rows (pvT m n t r s) := by
      funext k l
      unfold updZ colB pvT
      dsimp only
      by_cases e : k = r
      · subst e
        rw [if_pos rfl]
        have : (t.bas.set k (t.fre.getD s 0)).getD k 0 = t.fre.getD s 0 := by
          rw [List.getD_eq_getElem?_getD, List.getElem?_set_self (by rw [h.bl]; exact hr)]; rfl
        rw [this]
        rfl
      · rw [if_neg e]
        have : (t.bas.set r (t.fre.getD s 0)).getD k 0 = t.bas.getD k 0 := by
          rw [List.getD_eq_getElem?_getD, List.getElem?_set_ne (fun h => e h.symm), ← List.getD_eq_getElem?_getD]
        rw [this]
    have eF : updZ (colF n rows t) (s + 1) (colB n rows t r) = colF n rows (pvT m n t r s) := by
      funext k l
      unfold updZ
      by_cases e : k = s + 1
      · subst e
        rw [if_pos rfl]
        show colV n rows (t.bas.getD r 0) l = colV n rows ((t.fre.set s (t.bas.getD r 0)).getD s 0) l
        have : (t.fre.set s (t.bas.getD r 0)).getD s 0 = t.bas.getD r 0 := by
          rw [List.getD_eq_getElem?_getD, List.getElem?_set_self (by rw [h.fl]; exact hs)]; rfl
        rw [this]
      · rw [if_neg e]
        cases k with
        | zero => rfl
        | succ k =>
          show colV n rows (t.fre.getD k 0) l = colV n rows ((t.fre.set s (t.bas.getD r 0)).getD k 0) l
          have : (t.fre.set s (t.bas.getD r 0)).getD k 0 = t.fre.getD k 0 := by
            rw [List.getD_eq_getElem?_getD, List.getElem?_set_ne (by omega), ← List.getD_eq_getElem?_getD]
          rw [this]
    rw [eB, eF] at this
    refine ⟨fun j hj l hl => ?_, this.det, this.ne⟩
    have e := this.rel j hj l hl
    show cl t r (s + 1) * _ = _
    rw [e]
    refine sumZ_congr fun k hk => ?_
    rw [hcl k j hk hj]
    unfold pivC
    congr 2
    split
    · rfl
    · unfold pvN
      split
      · subst_vars; rfl
      · rfl
theorem sl_ok {m n : Nat} {rows : List Row} : ∀ (k : Nat) {t t' : Tab} {b : Int}, TabOk m n rows t → slT m n k t = some (t', b) →
    TabOk m n rows t' ∧ ((b = -1 ∧ ∀ i, i < m → 0 ≤ cl t' i 0) ∨ ((0 ≤ b ∧ b < m) ∧ cl t' b.toNat 0 < 0 ∧ ∀ j, j < n → cl t' b.toNat (j + 1) ≤ 0))
  | 0, _, _, _, _, h => by cases h
  | k + 1, t, t', b, h, e => by
    rw [slT] at e
    have h1 := lvK_rng t m
    split at e
    · rename_i hl
      cases e
      exact ⟨h, .inl ⟨rfl, fun i hi => lvK_none t m hl i hi⟩⟩
    · rename_i hl
      have h2 := enK_rng t (lvK t m).toNat n
      split at e
      · rename_i he
        cases e
        exact ⟨h, .inr ⟨⟨by omega, by omega⟩, lvK_neg t m (by omega), fun j hj => enK_none t _ n he j hj⟩⟩
      · rename_i he
        split at e
        · rename_i hb
          exact sl_ok k (piv_ok h (by omega) (by omega) (enK_pos t _ n (by omega)) hb) e
        · cases e
end Go.Proofs.Ytgjmbmdaaahmkaa
