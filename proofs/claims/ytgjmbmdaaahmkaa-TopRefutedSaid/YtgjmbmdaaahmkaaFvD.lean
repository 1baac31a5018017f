
/-
  What the solver's tableau tells at the end: a point that satisfies the rows, or a derivation of a contradiction.
-/
import Derived.Test.YtgjmbmdaaahmkaaFvC
set_option linter.unusedVariables false
set_option linter.unusedSimpArgs false
namespace Go.Proofs.Ytgjmbmdaaahmkaa
set_option maxRecDepth 100000
set_option maxHeartbeats 8000000

def sumL (f : Int → Int) : List Int → Int
  | [] => 0
  | a :: l => f a + sumL f l
theorem sumL_app (f : Int → Int) (l m : List Int) : sumL f (l ++ m) = sumL f l + sumL f m := by
  induction l with
  | nil => simp [sumL]
  | cons a l ih => rw [List.cons_append, sumL, sumL, ih]; omega
theorem sumL_perm {f : Int → Int} {l m : List Int} (h : l.Perm m) : sumL f l = sumL f m := by
  induction h with
  | nil => rfl
  | cons a _ ih => rw [sumL, sumL, ih]
  | swap a b l => rw [sumL, sumL, sumL, sumL]; omega
  | trans _ _ h1 h2 => rw [h1, h2]
theorem sumL_zero {f : Int → Int} {l : List Int} (h : ∀ a ∈ l, f a = 0) : sumL f l = 0 := by
  induction l with
  | nil => rfl
  | cons a l ih => rw [sumL, h a List.mem_cons_self, ih fun x hx => h x (List.mem_cons_of_mem _ hx)]; rfl
theorem sumZ_list (f : Int → Int) (l : List Int) : sumZ l.length (fun k => f (l.getD k 0)) = sumL f l := by
  have key : ∀ n, n ≤ l.length → sumZ n (fun k => f (l.getD k 0)) = sumL f (l.take n) := by
    intro n
    induction n with
    | zero => intro _; rfl
    | succ n ih =>
      intro h
      rw [sumZ, ih (by omega), takeD 0 (by omega), sumL_app, sumL, sumL]
      omega
  rw [key _ (Nat.le_refl _), List.take_length]
theorem sumL_range (f : Int → Int) (n : Nat) : sumL f ((List.range n).map fun z : Nat => (z : Int)) = sumZ n fun z => f (z : Int) := by
  induction n with
  | zero => rfl
  | succ n ih => rw [List.range_succ, List.map_append, sumL_app, ih, sumZ]; simp [sumL]
theorem sumZ_split (n m : Nat) (f : Nat → Int) : sumZ (n + m) f = sumZ n f + sumZ m fun i => f (n + i) := by
  induction m with
  | zero => simp [sumZ]
  | succ m ih => rw [← Nat.add_assoc, sumZ, ih, sumZ]; omega
theorem lft_sum (c x : List Int) (n : Nat) : lftK c x n = sumZ n fun k => c.getD k 0 * x.getD k 0 := by
  induction n with
  | zero => rfl
  | succ n ih => rw [lftK, sumZ, ih]
section
variable {m n : Nat} {rows : List Row} {t : Tab}

/-- a sum over all variables, told by the basic and the free ones -/
theorem all_sum (h : TabOk m n rows t) (Z : Int → Int) {l : Nat} (hl : l < m) :
    (sumZ m fun k => Z (t.bas.getD k 0) * colV n rows (t.bas.getD k 0) l) + (sumZ n fun j => Z (t.fre.getD j 0) * colV n rows (t.fre.getD j 0) l) = Z ((n : Int) + (l : Int)) - sumZ n fun x => (rows.getD l row0).coef.getD x 0 * Z (x : Int) := by
  have e1 := sumZ_list (fun z => Z z * colV n rows z l) t.bas
  have e2 := sumZ_list (fun z => Z z * colV n rows z l) t.fre
  rw [h.bl] at e1
  rw [h.fl] at e2
  rw [e1, e2, ← sumL_app, sumL_perm h.pm, sumL_range, sumZ_split]
  have a1 : (sumZ n fun z => Z (z : Int) * colV n rows (z : Int) l) = - sumZ n fun x => (rows.getD l row0).coef.getD x 0 * Z (x : Int) := by
    have := sumZ_mul n (-1) (fun x => (rows.getD l row0).coef.getD x 0 * Z (x : Int))
    rw [Int.neg_mul, Int.one_mul] at this
    rw [this]
    refine sumZ_congr fun x hx => ?_
    unfold colV
    rw [if_pos (by omega), Int.toNat_natCast, Int.mul_neg, Int.neg_mul, Int.one_mul, Int.mul_comm]
  have a2 : (sumZ m fun i => Z ((n + i : Nat) : Int) * colV n rows ((n + i : Nat) : Int) l) = Z ((n : Int) + (l : Int)) := by
    rw [sumZ_one (r := l) hl]
    · unfold colV
      rw [if_neg (by omega), if_pos (by omega), Int.mul_one]
      congr 1
    · intro i _ hne
      unfold colV
      rw [if_neg (by omega), if_neg (by omega), Int.mul_zero]
  rw [a1, a2]
  omega

/-! ### a point -/
def zK (t : Tab) (z : Int) : Nat → Int
  | 0 => 0
  | k + 1 => if t.bas.getD k 0 = z then cl t k 0 else zK t z k
def ptK (n : Nat) (t : Tab) : Nat → List Int
  | 0 => List.replicate n 0
  | k + 1 => if t.bas.getD k 0 < n then (ptK n t k).set (t.bas.getD k 0).toNat ((cl t k 0).tdiv t.den) else ptK n t k
theorem ptK_len (n : Nat) (t : Tab) : ∀ k, (ptK n t k).length = n
  | 0 => by simp [ptK]
  | k + 1 => by rw [ptK]; split <;> simp [ptK_len n t k]
theorem bas_nodup (h : TabOk m n rows t) : (t.bas ++ t.fre).Nodup := by
  refine h.pm.nodup_iff.2 ?_
  rw [List.nodup_iff_pairwise_ne]
  refine List.pairwise_map.2 ?_
  exact (List.nodup_iff_pairwise_ne.1 List.nodup_range).imp fun hab e => hab (by omega)
theorem bas_rng (h : TabOk m n rows t) : ∀ z ∈ t.bas ++ t.fre, 0 ≤ z ∧ z < (n + m : Nat) := by
  intro z hz
  obtain ⟨w, hw, rfl⟩ := List.mem_map.1 (h.pm.mem_iff.1 hz)
  have := List.mem_range.1 hw
  omega
theorem zK_free (h : TabOk m n rows t) {j : Nat} (hj : j < n) : ∀ k, k ≤ m → zK t (t.fre.getD j 0) k = 0
  | 0, _ => rfl
  | k + 1, hk => by
    rw [zK, if_neg, zK_free h hj k (by omega)]
    intro e
    have hn := (List.nodup_append.1 (bas_nodup h)).2.2
    exact hn _ (memD (l := t.bas) 0 (by rw [h.bl]; omega)) _ (memD (l := t.fre) 0 (by rw [h.fl]; exact hj)) e
theorem zK_bas (h : TabOk m n rows t) {i : Nat} (hi : i < m) : ∀ k, i < k → k ≤ m → zK t (t.bas.getD i 0) k = cl t i 0
  | 0, h0, _ => by omega
  | k + 1, h0, hk => by
    rw [zK]
    by_cases e : t.bas.getD k 0 = t.bas.getD i 0
    · rw [if_pos e]
      have hn := (List.nodup_append.1 (bas_nodup h)).1
      have hb := h.bl
      rw [getD_elem 0 (by omega), getD_elem 0 (by omega)] at e
      rw [(List.getElem_inj hn).1 e]
    · rw [if_neg e]
      by_cases e2 : i = k
      · subst e2; exact absurd rfl e
      · exact zK_bas h hi k (by omega) (by omega)
theorem zK_nonneg (h0 : ∀ i, i < m → 0 ≤ cl t i 0) (z : Int) : ∀ k, k ≤ m → 0 ≤ zK t z k
  | 0, _ => by simp [zK]
  | k + 1, hk => by
    rw [zK]
    split
    · exact h0 k (by omega)
    · exact zK_nonneg h0 z k (by omega)
theorem ptK_get (hb : ∀ k, k < m → 0 ≤ t.bas.getD k 0) (z : Nat) (hz : z < n) : ∀ k, k ≤ m → (ptK n t k).getD z 0 = (zK t (z : Int) k).tdiv t.den
  | 0, _ => by
    rw [ptK, zK, Int.zero_tdiv, List.getD_eq_getElem?_getD, List.getElem?_replicate]
    split <;> rfl
  | k + 1, hk => by
    have ih := ptK_get hb z hz k (by omega)
    have h0 := hb k (by omega)
    rw [ptK, zK]
    by_cases e : t.bas.getD k 0 = z
    · rw [if_pos (by omega), if_pos e]
      have : (t.bas.getD k 0).toNat = z := by omega
      rw [this, List.getD_eq_getElem?_getD, List.getElem?_set_self (by rw [ptK_len]; exact hz)]
      rfl
    · rw [if_neg e]
      split
      · rw [List.getD_eq_getElem?_getD, List.getElem?_set_ne (by omega), ← List.getD_eq_getElem?_getD, ih]
      · exact ih
/-- all values are integers: the point satisfies the rows -/
theorem pt_sat (h : TabOk m n rows t) (hw : ∀ i, i < m → (rows.getD i row0).coef.length = n) (h0 : ∀ i, i < m → 0 ≤ cl t i 0) (hd : ∀ i, i < m → t.bas.getD i 0 < n → (cl t i 0).tmod t.den = 0) : ∀ l, l < m → 0 ≤ valR (rows.getD l row0) (ptK n t m) := by
  intro l hl
  have hb : ∀ k, k < m → 0 ≤ t.bas.getD k 0 := fun k hk => (bas_rng h _ (List.mem_append_left _ (memD (l := t.bas) 0 (by rw [h.bl]; exact hk)))).1
  have hrel := h.tb.rel 0 (by omega) l hl
  have hs := all_sum h (fun z => zK t z m) hl
  have e1 : (sumZ n fun j => zK t (t.fre.getD j 0) m * colV n rows (t.fre.getD j 0) l) = 0 := sumZ_zero n _ fun j hj => by rw [zK_free h hj m (Nat.le_refl _), Int.zero_mul]
  have e2 : (sumZ m fun k => zK t (t.bas.getD k 0) m * colV n rows (t.bas.getD k 0) l) = sumZ m fun k => cl t k 0 * colB n rows t k l := sumZ_congr fun k hk => by rw [zK_bas h hk m hk (Nat.le_refl _)]; rfl
  have e3 : t.den * (rows.getD l row0).const = sumZ m fun k => cl t k 0 * colB n rows t k l := by
    have := sumZ_mul m (-1) (fun k => cl t k 0 * colB n rows t k l)
    have e : (sumZ m fun k => -1 * (cl t k 0 * colB n rows t k l)) = sumZ m fun k => - cl t k 0 * colB n rows t k l := sumZ_congr fun k _ => by rw [Int.neg_mul, Int.neg_mul, Int.one_mul]
    rw [e, ← hrel] at this
    have e0 : colF n rows t 0 l = - (rows.getD l row0).const := rfl
    rw [e0, Int.mul_neg] at this
    omega
  rw [e1, e2, ← e3] at hs
  have hdiv : ∀ z : Nat, z < n → zK t (z : Int) m = t.den * (ptK n t m).getD z 0 := by
    intro z hz
    rw [ptK_get hb z hz m (Nat.le_refl _)]
    have key : ∀ k, k ≤ m → (zK t (z : Int) k).tmod t.den = 0 := by
      intro k
      induction k with
      | zero => intro _; simp [zK]
      | succ k ih =>
        intro hk
        rw [zK]
        split
        · rename_i e; exact hd k (by omega) (by omega)
        · exact ih (by omega)
    have := Int.mul_tdiv_add_tmod (zK t (z : Int) m) t.den
    rw [key m (Nat.le_refl _)] at this
    omega
  have e4 : (sumZ n fun x => (rows.getD l row0).coef.getD x 0 * zK t (x : Int) m) = t.den * lftK (rows.getD l row0).coef (ptK n t m) n := by
    rw [lft_sum, sumZ_mul]
    refine sumZ_congr fun x hx => ?_
    rw [hdiv x hx, Int.mul_left_comm]
  rw [e4] at hs
  have hz := zK_nonneg h0 ((n : Int) + (l : Int)) m (Nat.le_refl _)
  unfold valR
  rw [hw l hl]
  have e5 : t.den * ((rows.getD l row0).const + lftK (rows.getD l row0).coef (ptK n t m) n) = zK t ((n : Int) + (l : Int)) m := by rw [Int.mul_add]; omega
  refine Classical.byContradiction fun hneg => ?_
  have := Int.mul_neg_of_pos_of_neg h.dp.1 (show (rows.getD l row0).const + lftK (rows.getD l row0).coef (ptK n t m) n < 0 by omega)
  omega

/-! ### a contradiction -/
def valZ (n : Nat) (rows : List Row) (x : List Int) (z : Int) : Int := if z < n then x.getD z.toNat 0 else valR (rows.getD (z - n).toNat row0) x
/-- each row of the tableau, at any numbers -/
theorem tab_row (h : TabOk m n rows t) (hw : ∀ i, i < m → (rows.getD i row0).coef.length = n) (x : List Int) {r : Nat} (hr : r < m) :
    t.den * valZ n rows x (t.bas.getD r 0) = cl t r 0 + sumZ n fun j => cl t r (j + 1) * valZ n rows x (t.fre.getD j 0) := by
  have key := h.tb.rows (zb := fun k => valZ n rows x (t.bas.getD k 0)) (zf := fun j => match j with | 0 => 1 | j + 1 => valZ n rows x (t.fre.getD j 0)) (fun l hl => by
    have hs := all_sum h (valZ n rows x) hl
    have e1 : (sumZ (n + 1) fun j => (match j with | 0 => 1 | j + 1 => valZ n rows x (t.fre.getD j 0)) * colF n rows t j l) = - (rows.getD l row0).const + sumZ n fun j => valZ n rows x (t.fre.getD j 0) * colV n rows (t.fre.getD j 0) l := by
      rw [Nat.add_comm, sumZ_split]
      have a : (sumZ 1 fun j => (match j with | 0 => 1 | j + 1 => valZ n rows x (t.fre.getD j 0)) * colF n rows t j l) = - (rows.getD l row0).const := by
        show 0 + 1 * colF n rows t 0 l = _
        rw [Int.zero_add, Int.one_mul]; rfl
      rw [a]
      congr 1
      refine sumZ_congr fun j _ => ?_
      rw [Nat.add_comm]
      rfl
    rw [e1]
    have e2 : (sumZ n fun i => (rows.getD l row0).coef.getD i 0 * valZ n rows x (i : Int)) = lftK (rows.getD l row0).coef x n := by
      rw [lft_sum]
      refine sumZ_congr fun i hi => ?_
      unfold valZ
      rw [if_pos (by omega), Int.toNat_natCast]
    have e3 : valZ n rows x ((n : Int) + (l : Int)) = (rows.getD l row0).const + lftK (rows.getD l row0).coef x n := by
      unfold valZ
      rw [if_neg (by omega), show ((n : Int) + (l : Int) - n).toNat = l by omega]
      unfold valR
      rw [hw l hl]
    rw [e2, e3] at hs
    show (sumZ m fun k => valZ n rows x (t.bas.getD k 0) * colV n rows (t.bas.getD k 0) l) + _ = 0
    omega) r hr
  rw [key, Nat.add_comm n 1, sumZ_split]
  congr 1
  · show 0 + cl t r 0 * 1 = _
    omega
  · refine sumZ_congr fun j _ => ?_
    rw [Nat.add_comm]
def fkA (n : Nat) (t : Tab) (r : Nat) : Int × Int := if t.bas.getD r 0 < n then (-1 - t.bas.getD r 0, t.den) else (t.bas.getD r 0 - n, t.den)
def fkK (n : Nat) (t : Tab) (r : Nat) : Nat → List (Int × Int)
  | 0 => [fkA n t r]
  | k + 1 => if (n : Int) ≤ t.fre.getD k 0 ∧ 0 < - cl t r (k + 1) then fkK n t r k ++ [(t.fre.getD k 0 - n, - cl t r (k + 1))] else fkK n t r k
/-- the value of a term -/
def trmV (n : Nat) (rows : List Row) (x : List Int) (a : Int × Int) : Int := a.2 * if a.1 < 0 then x.getD (-1 - a.1).toNat 0 else valR (rows.getD a.1.toNat row0) x
def trmS (n : Nat) (rows : List Row) (x : List Int) : List (Int × Int) → Int
  | [] => 0
  | a :: l => trmV n rows x a + trmS n rows x l
theorem trmS_app (x : List Int) (l k : List (Int × Int)) : trmS n rows x (l ++ k) = trmS n rows x l + trmS n rows x k := by
  induction l with
  | nil => simp [trmS]
  | cons a l ih => rw [List.cons_append, trmS, trmS, ih]; omega
/-- the derivation adds up to what is left of the row: its constant, and its coefficients at the system's own free variables -/
theorem fk_sum (h : TabOk m n rows t) (hw : ∀ i, i < m → (rows.getD i row0).coef.length = n) (x : List Int) {r : Nat} (hr : r < m) (hneg : ∀ j, j < n → cl t r (j + 1) ≤ 0) :
    trmS n rows x (fkK n t r n) = cl t r 0 + sumZ n fun j => if t.fre.getD j 0 < n then cl t r (j + 1) * x.getD (t.fre.getD j 0).toNat 0 else 0 := by
  have hrow := tab_row h hw x hr
  have hb := bas_rng h _ (List.mem_append_left _ (memD (l := t.bas) 0 (by rw [h.bl]; exact hr)))
  have hA : trmS n rows x [fkA n t r] = t.den * valZ n rows x (t.bas.getD r 0) := by
    unfold fkA
    rw [trmS, trmS, Int.add_zero]
    unfold valZ
    split
    · unfold trmV
      dsimp only
      rw [if_pos (by omega), show (-1 - (-1 - t.bas.getD r 0)).toNat = (t.bas.getD r 0).toNat by omega]
    · unfold trmV
      dsimp only
      rw [if_neg (by omega)]
  have key : ∀ k, k ≤ n → trmS n rows x (fkK n t r k) = t.den * valZ n rows x (t.bas.getD r 0) + sumZ k fun j => if (n : Int) ≤ t.fre.getD j 0 then - (cl t r (j + 1) * valZ n rows x (t.fre.getD j 0)) else 0 := by
    intro k
    induction k with
    | zero => intro _; rw [fkK, hA, sumZ]; omega
    | succ k ih =>
      intro hk
      rw [fkK, sumZ]
      have hk0 := hneg k (by omega)
      by_cases h1 : (n : Int) ≤ t.fre.getD k 0
      · rw [if_pos h1]
        by_cases h2 : 0 < - cl t r (k + 1)
        · rw [if_pos ⟨h1, h2⟩, trmS_app, ih (by omega), trmS, trmS]
          unfold trmV valZ
          dsimp only
          rw [if_neg (show ¬ t.fre.getD k 0 < n by omega), if_neg (show ¬ t.fre.getD k 0 - n < 0 by omega), Int.neg_mul]
          omega
        · rw [if_neg (fun h => h2 h.2), ih (by omega)]
          have : cl t r (k + 1) = 0 := by omega
          rw [this, Int.zero_mul]
          omega
      · rw [if_neg (fun h => h1 h.1), if_neg h1, ih (by omega)]
        omega
  rw [key n (Nat.le_refl _), hrow, Int.add_assoc, ← sumZ_add]
  congr 1
  refine sumZ_congr fun j _ => ?_
  by_cases h1 : t.fre.getD j 0 < n
  · rw [if_neg (by omega), if_pos h1]
    unfold valZ
    rw [if_pos h1]
    omega
  · rw [if_pos (by omega), if_neg h1]
    omega
theorem sum_dv {x : List Int} {d : Der} (hx : rdyR n rows) : ∀ i, (∀ k, k < i → trmB n rows.length d k) → dvK rows d i + lftK (dvC n rows d i) x n = sumZ i fun k => trmV n rows x (d.src.getD k 0, d.mult.getD k 0)
  | 0, _ => by rw [dvK, dvC, lft_zero, sumZ]; rfl
  | i + 1, ht => by
    have ih := sum_dv (x := x) hx i fun k hk => ht k (by omega)
    have hi := ht i (by omega)
    have hl := dvC_len n rows d i
    rw [dvK, dvC, sumZ]
    unfold trmV at ih ⊢
    dsimp only at ih ⊢
    split
    · rename_i hs
      rw [lft_put (by have := hi.1; omega), if_pos (by have := hi.1; omega), ← ih]
      have e : (dvC n rows d i).getD (-1 - d.src.getD i 0).toNat 0 + d.mult.getD i 0 - (dvC n rows d i).getD (-1 - d.src.getD i 0).toNat 0 = d.mult.getD i 0 := by omega
      rw [e]
      omega
    · rename_i hs
      have hn : (d.src.getD i 0).toNat < rows.length := by have := hi.1; omega
      rw [lft_mix n (Nat.le_refl _), ← ih]
      unfold valR
      rw [(hx _ hn).1, Int.mul_add]
      omega
theorem trmS_sum (x : List Int) (l : List (Int × Int)) : trmS n rows x l = sumZ l.length fun k => trmV n rows x (l.getD k (0, 0)) := by
  have key : ∀ k, k ≤ l.length → trmS n rows x (l.take k) = sumZ k fun k => trmV n rows x (l.getD k (0, 0)) := by
    intro k
    induction k with
    | zero => intro _; rfl
    | succ k ih =>
      intro h
      rw [takeD (0, 0) (by omega), trmS_app, ih (by omega), sumZ, trmS, trmS]
      omega
  rw [← key _ (Nat.le_refl _), List.take_length]
/-- the row that a bad row's derivation gives has a contradiction by its signs -/
theorem fk_con (h : TabOk m n rows t) (hw : ∀ i, i < m → (rows.getD i row0).coef.length = n) (hx : rdyR n rows) {r : Nat} (hr : r < m) (hneg : ∀ j, j < n → cl t r (j + 1) ≤ 0) (h0 : cl t r 0 < 0) {g : Int} (hg : 0 < g) {d : Der} (hdiv : d.div = 1)
    (hs : d.src = (fkK n t r n).map (·.1)) (hm : d.mult.length = d.src.length) (hgm : ∀ k, k < d.mult.length → g * d.mult.getD k 0 = ((fkK n t r n).getD k (0, 0)).2) (hd : dvB n rows d) : conB (dvR n rows d) := by
  have hlen : d.src.length = (fkK n t r n).length := by rw [hs]; simp
  -- the sum of the derivation, g times
  have key : ∀ x : List Int, g * (dvK rows d d.src.length + lftK (dvC n rows d d.src.length) x n) = cl t r 0 + sumZ n fun j => if t.fre.getD j 0 < n then cl t r (j + 1) * x.getD (t.fre.getD j 0).toNat 0 else 0 := by
    intro x
    rw [sum_dv hx _ hd.2.1, ← fk_sum h hw x hr hneg, trmS_sum, ← hlen, sumZ_mul]
    refine sumZ_congr fun k hk => ?_
    have e : d.src.getD k 0 = ((fkK n t r n).getD k (0, 0)).1 := by
      rw [getD_elem 0 hk, getD_elem (0, 0) (by omega)]
      simp only [hs, List.getElem_map]
    unfold trmV
    dsimp only
    rw [← Int.mul_assoc, hgm k (by omega), e]
  have hz : dvK rows d d.src.length < 0 := by
    have := key []
    have e1 : lftK (dvC n rows d d.src.length) [] n = 0 := by
      rw [lft_sum]; exact sumZ_zero n _ fun k _ => by simp
    have e2 : (sumZ n fun j => if t.fre.getD j 0 < n then cl t r (j + 1) * ([] : List Int).getD (t.fre.getD j 0).toNat 0 else 0) = 0 := sumZ_zero n _ fun k _ => by simp
    rw [e1, e2] at this
    refine Classical.byContradiction fun hn => ?_
    have := Int.mul_nonneg (show 0 ≤ g by omega) (show 0 ≤ dvK rows d d.src.length by omega)
    simp only [Int.add_zero] at *
    omega
  refine ⟨fun z hz' => ?_, ?_⟩
  · have hzn : z < n := by unfold dvR at hz'; simpa [dvC_len] using hz'
    have e : (dvR n rows d).coef.getD z 0 = (dvC n rows d d.src.length).getD z 0 := by
      unfold dvR
      dsimp only
      rw [getD_elem 0 (by simp [dvC_len, hzn]), List.getElem_map, getD_elem 0 (by rw [dvC_len]; exact hzn), hdiv, Int.tdiv_one]
    rw [e]
    have k1 := key ((List.replicate n 0).set z 1)
    have k0 := key []
    have e1 : lftK (dvC n rows d d.src.length) [] n = 0 := by
      rw [lft_sum]; exact sumZ_zero n _ fun k _ => by simp
    have e2 : (sumZ n fun j => if t.fre.getD j 0 < n then cl t r (j + 1) * ([] : List Int).getD (t.fre.getD j 0).toNat 0 else 0) = 0 := sumZ_zero n _ fun k _ => by simp
    rw [e1, e2] at k0
    have hget : ∀ i : Nat, ((List.replicate n (0 : Int)).set z 1).getD i 0 = if i = z then 1 else 0 := by
      intro i
      by_cases e : i = z
      · subst e
        rw [if_pos rfl, List.getD_eq_getElem?_getD, List.getElem?_set_self (by simpa using hzn)]; rfl
      · rw [if_neg e, List.getD_eq_getElem?_getD, List.getElem?_set_ne (fun h => e h.symm), List.getElem?_replicate]
        split <;> rfl
    have e3 : lftK (dvC n rows d d.src.length) ((List.replicate n 0).set z 1) n = (dvC n rows d d.src.length).getD z 0 := by
      rw [lft_sum, sumZ_one (r := z) hzn]
      · rw [hget, if_pos rfl, Int.mul_one]
      · intro i _ hi
        rw [hget, if_neg hi, Int.mul_zero]
    have e4 : (sumZ n fun j => if t.fre.getD j 0 < n then cl t r (j + 1) * ((List.replicate n (0 : Int)).set z 1).getD (t.fre.getD j 0).toNat 0 else 0) ≤ 0 := by
      have : ∀ k, k ≤ n → (sumZ k fun j => if t.fre.getD j 0 < n then cl t r (j + 1) * ((List.replicate n (0 : Int)).set z 1).getD (t.fre.getD j 0).toNat 0 else 0) ≤ 0 := by
        intro k
        induction k with
        | zero => intro _; simp [sumZ]
        | succ k ih =>
          intro hk
          have a := ih (by omega)
          have b := hneg k (by omega)
          rw [sumZ, hget]
          split
          · split
            · omega
            · omega
          · omega
      exact this n (Nat.le_refl _)
    rw [e3, Int.mul_add] at k1
    simp only [Int.add_zero] at k0
    refine Classical.byContradiction fun hn => ?_
    have := Int.mul_pos hg (show 0 < (dvC n rows d d.src.length).getD z 0 by omega)
    omega
  · unfold dvR flr
    dsimp only
    rw [hdiv, Int.tmod_one, if_neg (by omega), Int.tdiv_one]
    exact hz
end
end Go.Proofs.Ytgjmbmdaaahmkaa
