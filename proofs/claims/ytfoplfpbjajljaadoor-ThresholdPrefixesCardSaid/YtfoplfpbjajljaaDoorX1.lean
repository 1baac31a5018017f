import Derived.Test.YtfoplfpbjajljaaDoorFuA
set_option linter.unusedVariables false
set_option linter.unusedSimpArgs false
namespace Go.Proofs.YtfoplfpbjajljaaDoor
set_option maxRecDepth 100000
set_option maxHeartbeats 8000000
structure Der where
 src : List Int
 mult : List Int
 div : Int
structure Nod where
 lines : List Der
 var : Int
 at_ : Int
 left : Int
 right : Int
def der0 : Der := ⟨[], [], 0⟩
def nod0 : Nod := ⟨[], 0, 0, 0, 0⟩
def encDe (d : Der) : List AV := [.sl 0 encI d.src, .sl 0 encI d.mult, .int .i64 d.div]
def encNo (n : Nod) : List AV := [.sl der0 encDe n.lines, .int .i64 n.var, .int .i64 n.at_, .int .i64 n.left, .int .i64 n.right]
def dvC (vars : Nat) (rows : List Row) (d : Der) : Nat → List Int
 |0 => List.replicate vars 0
 |i + 1 =>
  if d.src.getD i 0 < 0 then (dvC vars rows d i).set (-1 - d.src.getD i 0).toNat ((dvC vars rows d i).getD (-1 - d.src.getD i 0).toNat 0 + d.mult.getD i 0)
  else (List.range vars).map fun j => (dvC vars rows d i).getD j 0 + d.mult.getD i 0 * (rows.getD (d.src.getD i 0).toNat row0).coef.getD j 0
def dvK (rows : List Row) (d : Der) : Nat → Int
 |0 => 0
 |i + 1 => if d.src.getD i 0 < 0 then dvK rows d i else dvK rows d i + d.mult.getD i 0 * (rows.getD (d.src.getD i 0).toNat row0).const
def trmB (vars n : Nat) (d : Der) (i : Nat) : Prop := (-(vars : Int) ≤ d.src.getD i 0 ∧ d.src.getD i 0 < n) ∧ 1 ≤ d.mult.getD i 0 ∧ d.mult.getD i 0 ≤ 65536
instance (vars n : Nat) (d : Der) (i : Nat) : Decidable (trmB vars n d i) := inferInstanceAs (Decidable (_ ∧ _))
def hedB (d : Der) : Prop := d.src.length = d.mult.length ∧ (1 ≤ d.src.length ∧ d.src.length ≤ 64) ∧ 1 ≤ d.div ∧ d.div ≤ 68719476736
instance (d : Der) : Decidable (hedB d) := inferInstanceAs (Decidable (_ ∧ _))
def flr (a d : Int) : Int := if a.tmod d < 0 then a.tdiv d - 1 else a.tdiv d
def dvR (vars : Nat) (rows : List Row) (d : Der) : Row := ⟨(dvC vars rows d d.src.length).map (·.tdiv d.div), flr (dvK rows d d.src.length) d.div⟩
def dvB (vars : Nat) (rows : List Row) (d : Der) : Prop :=
 hedB d ∧ (∀ i, i < d.src.length → trmB vars rows.length d i) ∧ (∀ j, j < vars → ((dvC vars rows d d.src.length).getD j 0).tmod d.div = 0) ∧ smlB (dvR vars rows d)
instance (vars : Nat) (rows : List Row) (d : Der) : Decidable (dvB vars rows d) := inferInstanceAs (Decidable (_ ∧ _))
def rdyR (vars : Nat) (rows : List Row) : Prop := ∀ j, j < rows.length → (rows.getD j row0).coef.length = vars ∧ smlB (rows.getD j row0)
theorem dvC_len (vars : Nat) (rows : List Row) (d : Der) : ∀ i, (dvC vars rows d i).length = vars
 |0 => by simp [dvC]
 |i + 1 => by
  rw [dvC]
  split
  ·rw [List.length_set, dvC_len vars rows d i]
  ·simp
theorem mul_52 {a b : Int} (ha : numB a) (hb : 1 ≤ b ∧ b ≤ 65536) : -4503599627370496 ≤ b * a ∧ b * a ≤ 4503599627370496 := by
 have h1 : b * a ≤ b * 68719476736 := Int.mul_le_mul_of_nonneg_left ha.2 (by omega)
 have h2 : b * -68719476736 ≤ b * a := Int.mul_le_mul_of_nonneg_left ha.1 (by omega)
 omega
theorem dvC_b {vars : Nat} {rows : List Row} {d : Der} (hr : rdyR vars rows) : ∀ (i : Nat), (∀ k, k < i → trmB vars rows.length d k) → ∀ j, -4503599627370496 * (i : Int) ≤ (dvC vars rows d i).getD j 0 ∧ (dvC vars rows d i).getD j 0 ≤ 4503599627370496 * (i : Int)
 |0, _, j => by
  have : (dvC vars rows d 0).getD j 0 = 0 := by
   rw [dvC, gD, List.getElem?_replicate]; split <;> rfl
  rw [this]; simp
 |i + 1, h, j => by
  have ih := dvC_b hr i (fun k hk => h k (by omega))
  have ht := h i (by omega)
  rw [dvC]
  split
  ·rename_i hs
   by_cases e : (-1 - d.src.getD i 0).toNat = j
   ·by_cases hj : j < (dvC vars rows d i).length
    ·subst e
     rw [gD, List.getElem?_set_self hj]
     have := ih (-1 - d.src.getD i 0).toNat
     have := ht.2
     simp only [Option.getD_some]
     omega
    ·rw [gD, List.getElem?_eq_none (by simp only [List.length_set]; omega)]
     simp only [Option.getD_none]
     omega
   ·rw [gD, List.getElem?_set_ne e, ← gD]
    have := ih j
    omega
  ·rename_i hs
   by_cases hj : j < vars
   ·rw [getD_elem 0 (by simpa using hj), List.getElem_map, List.getElem_range]
    have a := ih j
    have hrow := hr (d.src.getD i 0).toNat (by have := ht.1; omega)
    have b : numB ((rows.getD (d.src.getD i 0).toNat row0).coef.getD j 0) := hrow.2.1 j (by omega)
    have c := mul_52 b ht.2
    omega
   ·rw [gD, List.getElem?_eq_none (by simpa using hj)]
    simp only [Option.getD_none]
    omega
theorem dvK_b {vars : Nat} {rows : List Row} {d : Der} (hr : rdyR vars rows) : ∀ (i : Nat), (∀ k, k < i → trmB vars rows.length d k) → -4503599627370496 * (i : Int) ≤ dvK rows d i ∧ dvK rows d i ≤ 4503599627370496 * (i : Int)
 |0, _ => by simp [dvK]
 |i + 1, h => by
  have ih := dvK_b hr i (fun k hk => h k (by omega))
  have ht := h i (by omega)
  rw [dvK]
  split
  ·omega
  ·have hrow := hr (d.src.getD i 0).toNat (by have := ht.1; omega)
   have c := mul_52 hrow.2.2 ht.2
   omega
theorem dvR_rdy {vars : Nat} {rows : List Row} {d : Der} (h : dvB vars rows d) : (dvR vars rows d).coef.length = vars ∧ smlB (dvR vars rows d) :=
 ⟨by simp [dvR, dvC_len], h.2.2.2⟩
def nodV (vars n i : Nat) (x : Nod) : Prop := x.var = -1 ∨ ((0 ≤ x.var ∧ x.var < vars) ∧ (0 ≤ x.at_ ∧ x.at_ ≤ 1048576) ∧ ((i : Int) < x.left ∧ x.left < n) ∧ ((i : Int) < x.right ∧ x.right < n))
instance (vars n i : Nat) (x : Nod) : Decidable (nodV vars n i x) := inferInstanceAs (Decidable (_ ∨ _))
def parM (nodes : List Nod) (c : Int) : Nat → Int
 |0 => 0
 |k + 1 => parM nodes c k + (if (nodes.getD k nod0).var = -1 then 0 else (if (nodes.getD k nod0).left = c then 1 else 0) + (if (nodes.getD k nod0).right = c then 1 else 0))
def linN (nodes : List Nod) : Nat → Nat
 |0 => 0
 |k + 1 => linN nodes k + (nodes.getD k nod0).lines.length
def wefB (vars : Nat) (nodes : List Nod) : Prop :=
 (1 ≤ nodes.length ∧ nodes.length ≤ 400) ∧ (∀ i, i < nodes.length → nodV vars nodes.length i (nodes.getD i nod0)) ∧ (∀ i, i < nodes.length → 0 < i → parM nodes i nodes.length = 1) ∧ linN nodes nodes.length ≤ 400
instance (vars : Nat) (nodes : List Nod) : Decidable (wefB vars nodes) := inferInstanceAs (Decidable (_ ∧ _))
theorem parM_b (nodes : List Nod) (c : Int) : ∀ k, 0 ≤ parM nodes c k ∧ parM nodes c k ≤ 2 * (k : Int)
 |0 => by simp [parM]
 |k + 1 => by
  have := parM_b nodes c k
  rw [parM]
  (repeat' split) <;> omega
theorem linN_mono (nodes : List Nod) {k m : Nat} (h : k ≤ m) : linN nodes k ≤ linN nodes m := by
 induction m with
 |zero => rw [Nat.le_zero.1 h]; exact Nat.le_refl _
 |succ m ih =>
  by_cases e : k = m + 1
  ·rw [e]; exact Nat.le_refl _
  ·have := ih (by omega); rw [linN]; omega
theorem linN_at (nodes : List Nod) {i : Nat} (h : i < nodes.length) : (nodes.getD i nod0).lines.length ≤ linN nodes nodes.length := by
 have := linN_mono nodes (show i + 1 ≤ nodes.length by omega)
 rw [linN] at this
 omega
def conB (r : Row) : Prop := (∀ j, j < r.coef.length → r.coef.getD j 0 ≤ 0) ∧ r.const < 0
instance (r : Row) : Decidable (conB r) := inferInstanceAs (Decidable (_ ∧ _))
def someC (l : List Row) : Prop := ∃ j, j < l.length ∧ conB (l.getD j row0)
instance (l : List Row) : Decidable (someC l) := inferInstanceAs (Decidable (∃ j, j < l.length ∧ _))
def lnR (vars : Nat) (rows : List Row) (l : List Der) : Nat → Option (List Row)
 |0 => some rows
 |k + 1 => match lnR vars rows l k with
  |none => none
  |some a => if dvB vars a (l.getD k der0) then some (a ++ [dvR vars a (l.getD k der0)]) else none
def splL (vars : Nat) (v k : Int) : Row := ⟨(List.replicate vars 0).set v.toNat (-1), k⟩
def splR (vars : Nat) (v k : Int) : Row := ⟨(List.replicate vars 0).set v.toNat 1, -k⟩
def cloB (vars : Nat) (nodes : List Nod) : Nat → Nat → List Row → Bool
 |0, _, _ => false
 |m + 1, i, rows => match lnR vars rows (nodes.getD i nod0).lines (nodes.getD i nod0).lines.length with
  |none => false
  |some a => if (nodes.getD i nod0).var = -1 then decide (someC a)
   else cloB vars nodes m (nodes.getD i nod0).left.toNat (a ++ [splL vars (nodes.getD i nod0).var (nodes.getD i nod0).at_]) && cloB vars nodes m (nodes.getD i nod0).right.toNat (a ++ [splR vars (nodes.getD i nod0).var ((nodes.getD i nod0).at_ + 1)])
def refB (s : LSys) (nodes : List Nod) : Prop := sysE s = 0 ∧ wefB s.vars.toNat nodes ∧ cloB s.vars.toNat nodes nodes.length 0 s.rows = true
instance (s : LSys) (nodes : List Nod) : Decidable (refB s nodes) := inferInstanceAs (Decidable (_ ∧ _))
theorem cloB_fuel {vars : Nat} {nodes : List Nod} (hv : ∀ i, i < nodes.length → nodV vars nodes.length i (nodes.getD i nod0)) : ∀ (m m' i : Nat) (rows : List Row), i < nodes.length → nodes.length - i ≤ m → nodes.length - i ≤ m' → cloB vars nodes m i rows = cloB vars nodes m' i rows
 |0, m', i, rows, hi, h, _ => by omega
 |m + 1, 0, i, rows, hi, _, h => by omega
 |m + 1, m' + 1, i, rows, hi, h1, h2 => by
  rw [cloB, cloB]
  cases hl : lnR vars rows (nodes.getD i nod0).lines (nodes.getD i nod0).lines.length with
  |none => rfl
  |some a =>
   dsimp only
   split
   ·rfl
   ·rename_i hn
    have hx := hv i hi
    unfold nodV at hx
    have hx : ((0 ≤ (nodes.getD i nod0).var ∧ (nodes.getD i nod0).var < vars) ∧ (0 ≤ (nodes.getD i nod0).at_ ∧ (nodes.getD i nod0).at_ ≤ 1048576) ∧ ((i : Int) < (nodes.getD i nod0).left ∧ (nodes.getD i nod0).left < nodes.length) ∧ ((i : Int) < (nodes.getD i nod0).right ∧ (nodes.getD i nod0).right < nodes.length)) := hx.resolve_left hn
    rw [cloB_fuel hv m m' _ _ (by omega) (by omega) (by omega), cloB_fuel hv m m' _ _ (by omega) (by omega) (by omega)]
theorem rdy_app {vars : Nat} {rows : List Row} {r : Row} (h : rdyR vars rows) (hr : r.coef.length = vars ∧ smlB r) : rdyR vars (rows ++ [r]) := by
 intro j hj
 rw [List.length_append] at hj
 by_cases e : j < rows.length
 ·rw [gD, List.getElem?_append_left e, ← gD]; exact h j e
 ·have : j = rows.length := by simp only [List.length_cons, List.length_nil] at hj; omega
  subst this
  rw [gD, List.getElem?_append_right (Nat.le_refl _), Nat.sub_self]
  exact hr
theorem lnR_rdy {vars : Nat} {l : List Der} {rows : List Row} (h : rdyR vars rows) : ∀ {k : Nat} {a : List Row}, lnR vars rows l k = some a → rdyR vars a ∧ a.length = rows.length + k
 |0, a, e => by cases e; exact ⟨h, rfl⟩
 |k + 1, a, e => by
  rw [lnR] at e
  cases hk : lnR vars rows l k with
  |none => rw [hk] at e; cases e
  |some b =>
   rw [hk] at e
   dsimp only at e
   obtain ⟨h1, h2⟩ := lnR_rdy h hk
   split at e
   ·rename_i hd
    cases e
    exact ⟨rdy_app h1 (dvR_rdy hd), by rw [List.length_append, h2]; simp only [List.length_cons, List.length_nil]; omega⟩
   ·cases e
theorem spl_rdy {vars : Nat} {v k x : Int} (hx : x = 1 ∨ x = -1) (hk : numB k) : (⟨(List.replicate vars 0).set v.toNat x, k⟩ : Row).coef.length = vars ∧ smlB ⟨(List.replicate vars 0).set v.toNat x, k⟩ := by
 refine ⟨by simp, fun j hj => ?_, hk⟩
 dsimp only at hj ⊢
 rw [gD]
 by_cases e : v.toNat = j
 ·subst e
  rw [List.getElem?_set_self (by simpa using hj)]
  rcases hx with rfl | rfl <;> decide
 ·rw [List.getElem?_set_ne e, List.getElem?_replicate]
  split <;> decide
theorem sys_rdy {s : LSys} (h : sysE s = 0) : rdyR s.vars.toNat s.rows := by
 obtain ⟨h1, h2, _, h4⟩ := sysE_ok h
 intro j hj
 have := h2 j hj
 exact ⟨by omega, h4 j hj⟩
theorem lft_congr {c c' x : List Int} {n : Nat} (h : ∀ j, j < n → c.getD j 0 = c'.getD j 0) : lftK c x n = lftK c' x n := by
 induction n with
 |zero => rfl
 |succ n ih => rw [lftK, lftK, ih fun j hj => h j (by omega), h n (by omega)]
theorem lft_put {c x : List Int} {v : Nat} {a : Int} (hv : v < c.length) : ∀ k, lftK (c.set v a) x k = lftK c x k + if v < k then (a - c.getD v 0) * x.getD v 0 else 0
 |0 => by simp [lftK]
 |k + 1 => by
  rw [lftK, lftK, lft_put hv k]
  by_cases e : v = k
  ·subst e
   have : (c.set v a).getD v 0 = a := by
    rw [gD, List.getElem?_set_self hv]; rfl
   rw [this, if_neg (by omega), if_pos (by omega), Int.sub_mul]
   omega
  ·have : (c.set v a).getD k 0 = c.getD k 0 := by
    rw [gD, List.getElem?_set_ne e, ← gD]
   rw [this]
   by_cases h : v < k
   ·rw [if_pos h, if_pos (by omega)]; omega
   ·rw [if_neg h, if_neg (by omega)]; omega
theorem lft_mix {c r x : List Int} {k : Int} {n : Nat} : ∀ m, m ≤ n → lftK ((List.range n).map fun j => c.getD j 0 + k * r.getD j 0) x m = lftK c x m + k * lftK r x m
 |0, _ => by simp [lftK]
 |m + 1, h => by
  rw [lftK, lftK, lftK, lft_mix m (by omega), getD_elem 0 (by simp; omega), List.getElem_map, List.getElem_range, Int.add_mul, Int.mul_add, Int.mul_assoc]
  omega
theorem lft_zero (x : List Int) (n : Nat) : ∀ k, lftK (List.replicate n 0) x k = 0
 |0 => rfl
 |k + 1 => by
  rw [lftK, lft_zero x n k]
  have : (List.replicate n (0 : Int)).getD k 0 = 0 := by
   rw [gD, List.getElem?_replicate]; split <;> rfl
  rw [this]; simp
structure OnR (vars : Nat) (x : List Int) (rows : List Row) : Prop where
 len : x.length = vars
 pos : ∀ j, 0 ≤ x.getD j 0
 sat : ∀ j, j < rows.length → 0 ≤ valR (rows.getD j row0) x
theorem OnR.app {vars : Nat} {x : List Int} {rows : List Row} {r : Row} (h : OnR vars x rows) (hr : 0 ≤ valR r x) : OnR vars x (rows ++ [r]) := by
 refine ⟨h.len, h.pos, fun j hj => ?_⟩
 rw [List.length_append] at hj
 by_cases e : j < rows.length
 ·rw [gD, List.getElem?_append_left e, ← gD]; exact h.sat j e
 ·have : j = rows.length := by simp only [List.length_cons, List.length_nil] at hj; omega
  subst this
  rw [gD, List.getElem?_append_right (Nat.le_refl _), Nat.sub_self]
  exact hr
theorem sum_nonneg {vars : Nat} {x : List Int} {rows : List Row} {d : Der} (h : OnR vars x rows) (hr : rdyR vars rows) : ∀ i, (∀ k, k < i → trmB vars rows.length d k) → 0 ≤ dvK rows d i + lftK (dvC vars rows d i) x vars
 |0, _ => by rw [dvK, dvC, lft_zero]; omega
 |i + 1, ht => by
  have ih := sum_nonneg h hr i fun k hk => ht k (by omega)
  have hi := ht i (by omega)
  have hl := dvC_len vars rows d i
  rw [dvK, dvC]
  split
  ·rename_i hs
   rw [lft_put (by have := hi.1; omega), if_pos (by have := hi.1; omega)]
   have e : (dvC vars rows d i).getD (-1 - d.src.getD i 0).toNat 0 + d.mult.getD i 0 - (dvC vars rows d i).getD (-1 - d.src.getD i 0).toNat 0 = d.mult.getD i 0 := by omega
   rw [e]
   have := Int.mul_nonneg (show 0 ≤ d.mult.getD i 0 by have := hi.2; omega) (h.pos (-1 - d.src.getD i 0).toNat)
   omega
  ·rename_i hs
   have hn : (d.src.getD i 0).toNat < rows.length := by have := hi.1; omega
   rw [lft_mix vars (Nat.le_refl _)]
   have hv := h.sat _ hn
   unfold valR at hv
   rw [(hr _ hn).1] at hv
   have := Int.mul_nonneg (show 0 ≤ d.mult.getD i 0 by have := hi.2; omega) hv
   rw [Int.mul_add] at this
   omega
theorem lft_div {c x : List Int} {d : Int} (hd : ∀ j, j < c.length → (c.getD j 0).tmod d = 0) : ∀ k, k ≤ c.length → d * lftK (c.map (·.tdiv d)) x k = lftK c x k
 |0, _ => by simp [lftK]
 |k + 1, hk => by
  rw [lftK, lftK, Int.mul_add, lft_div hd k (by omega)]
  have e : (c.map (·.tdiv d)).getD k 0 = (c.getD k 0).tdiv d := by
   rw [getD_elem 0 (by simp; omega), List.getElem_map, getD_elem 0 (by omega)]
  rw [e, ← Int.mul_assoc]
  congr 2
  have := Int.mul_tdiv_add_tmod (c.getD k 0) d
  rw [hd k (by omega)] at this
  omega
theorem flr_ge {a d s : Int} (hd : 1 ≤ d) (h : 0 ≤ a + d * s) : 0 ≤ flr a d + s := by
 unfold flr
 have e := Int.mul_tdiv_add_tmod a d
 have hm := Int.tmod_lt_of_pos a (show 0 < d by omega)
 generalize a.tdiv d = q at *
 generalize a.tmod d = r at *
 by_cases hr : r < 0
 ·rw [if_pos hr]
  refine Classical.byContradiction fun hn => ?_
  have h1 : q + s ≤ 0 := by omega
  have h2 : d * (q + s) ≤ 0 := Int.mul_nonpos_of_nonneg_of_nonpos (by omega) h1
  rw [Int.mul_add] at h2
  omega
 ·rw [if_neg hr]
  refine Classical.byContradiction fun hn => ?_
  have h1 : q + s ≤ -1 := by omega
  have h2 : d * (q + s) ≤ d * (-1) := Int.mul_le_mul_of_nonneg_left h1 (by omega)
  rw [Int.mul_add] at h2
  omega
theorem dv_sound {vars : Nat} {x : List Int} {rows : List Row} {d : Der} (h : OnR vars x rows) (hr : rdyR vars rows) (hd : dvB vars rows d) : 0 ≤ valR (dvR vars rows d) x := by
 obtain ⟨h1, h2, h3, _⟩ := hd
 have hs := sum_nonneg h hr _ h2
 have hl := dvC_len vars rows d d.src.length
 unfold valR dvR
 dsimp only
 rw [List.length_map, hl]
 refine flr_ge h1.2.2.1 ?_
 rw [lft_div (fun j hj => h3 j (by omega)) vars (by omega)]
 exact hs
theorem con_neg {r : Row} {x : List Int} (hc : conB r) (hp : ∀ j, 0 ≤ x.getD j 0) : valR r x < 0 := by
 have key : ∀ k, k ≤ r.coef.length → lftK r.coef x k ≤ 0 := by
  intro k
  induction k with
  |zero => intro _; simp [lftK]
  |succ k ih =>
   intro hk
   have a := ih (by omega)
   have b := Int.mul_nonpos_of_nonpos_of_nonneg (hc.1 k (by omega)) (hp k)
   rw [lftK]; omega
 have := key _ (Nat.le_refl _)
 have := hc.2
 unfold valR
 omega
theorem ln_sound {vars : Nat} {x : List Int} {l : List Der} {rows : List Row} (h : OnR vars x rows) (hr : rdyR vars rows) : ∀ {k : Nat} {a : List Row}, lnR vars rows l k = some a → OnR vars x a
 |0, a, e => by cases e; exact h
 |k + 1, a, e => by
  rw [lnR] at e
  cases hk : lnR vars rows l k with
  |none => rw [hk] at e; cases e
  |some b =>
   rw [hk] at e
   dsimp only at e
   have h1 := ln_sound h hr hk
   split at e
   ·rename_i hd
    cases e
    exact h1.app (dv_sound h1 (lnR_rdy hr hk).1 hd)
   ·cases e
theorem spl_val {vars : Nat} {x : List Int} {v a k : Int} (hv : 0 ≤ v ∧ v < vars) : valR ⟨(List.replicate vars 0).set v.toNat a, k⟩ x = k + a * x.getD v.toNat 0 := by
 unfold valR
 dsimp only
 rw [List.length_set, List.length_replicate, lft_put (by simp; omega), lft_zero, if_pos (by omega)]
 have : (List.replicate vars (0 : Int)).getD v.toNat 0 = 0 := by
  rw [gD, List.getElem?_replicate]; split <;> rfl
 rw [this]
 congr 1
 rw [Int.sub_zero, Int.zero_add]
theorem clo_sound {vars : Nat} {nodes : List Nod} {x : List Int} (hv : ∀ i, i < nodes.length → nodV vars nodes.length i (nodes.getD i nod0)) : ∀ (m i : Nat) (rows : List Row), i < nodes.length → OnR vars x rows → rdyR vars rows → cloB vars nodes m i rows = false
 |0, _, _, _, _, _ => rfl
 |m + 1, i, rows, hi, h, hr => by
  rw [cloB]
  cases hl : lnR vars rows (nodes.getD i nod0).lines (nodes.getD i nod0).lines.length with
  |none => rfl
  |some a =>
   dsimp only
   have ha := ln_sound h hr hl
   have hra := (lnR_rdy hr hl).1
   split
   ·refine decide_eq_false fun hs => ?_
    obtain ⟨j, hj, hc⟩ := hs
    have := con_neg hc h.pos
    have := ha.sat j hj
    omega
   ·rename_i hn
    have hx := hv i hi
    unfold nodV at hx
    have hx : ((0 ≤ (nodes.getD i nod0).var ∧ (nodes.getD i nod0).var < vars) ∧ (0 ≤ (nodes.getD i nod0).at_ ∧ (nodes.getD i nod0).at_ ≤ 1048576) ∧ ((i : Int) < (nodes.getD i nod0).left ∧ (nodes.getD i nod0).left < nodes.length) ∧ ((i : Int) < (nodes.getD i nod0).right ∧ (nodes.getD i nod0).right < nodes.length)) := hx.resolve_left hn
    obtain ⟨v1, a1, l1, r1⟩ := hx
    by_cases hxv : x.getD (nodes.getD i nod0).var.toNat 0 ≤ (nodes.getD i nod0).at_
    ·have hL : OnR vars x (a ++ [splL vars (nodes.getD i nod0).var (nodes.getD i nod0).at_]) := ha.app (by unfold splL; rw [spl_val v1]; omega)
     have hLr : rdyR vars (a ++ [splL vars (nodes.getD i nod0).var (nodes.getD i nod0).at_]) := rdy_app hra (spl_rdy (.inr rfl) (by unfold numB; omega))
     rw [clo_sound hv m _ _ (by omega) hL hLr, Bool.false_and]
    ·have hR : OnR vars x (a ++ [splR vars (nodes.getD i nod0).var ((nodes.getD i nod0).at_ + 1)]) := ha.app (by unfold splR; rw [spl_val v1]; omega)
     have hRr : rdyR vars (a ++ [splR vars (nodes.getD i nod0).var ((nodes.getD i nod0).at_ + 1)]) := rdy_app hra (spl_rdy (.inl rfl) (by unfold numB; omega))
     rw [clo_sound hv m (nodes.getD i nod0).right.toNat _ (by omega) hR hRr, Bool.and_false]
theorem ref_sound {s : LSys} {nodes : List Nod} (h : refB s nodes) (x : List Int) : ¬ satB s x := by
 rintro ⟨_, h2, h3, h4⟩
 obtain ⟨a1, a2, a3⟩ := h
 have hp : ∀ j, 0 ≤ x.getD j 0 := by
  intro j
  by_cases hj : j < x.length
  ·exact (h3 j hj).1
  ·rw [gD, List.getElem?_eq_none (by omega)]; simp
 have hvars := (sysE_ok a1).1
 have := clo_sound (x := x) a2.2.1 nodes.length 0 s.rows (by have := a2.1; omega) ⟨by omega, hp, h4⟩ (sys_rdy a1)
 rw [a3] at this
 cases this
set_option maxHeartbeats 16000000
def okS (s : LSys) : Prop := s.rows.length ≤ 140737488355328 ∧ ∀ j, j < s.rows.length → (s.rows.getD j row0).coef.length ≤ 140737488355328
theorem okS_valid {s : LSys} (h : sysE s = 0) : okS s := by
 obtain ⟨h1, h2, h3, _⟩ := sysE_ok h
 exact ⟨by omega, fun j hj => by have := h2 j hj; omega⟩
theorem withinF (n : Int) : PSpec Tryd.prog 44 [.int .i64 n] (fun u => u = .bool (decide (numB n))) := by
 refine PSpec.intro tt_ok mx_ok Tryd.func44 rfl (by decide) ?_; (conv => whnf)
 refine cmpI ?_ ?_ <;> (intro h; conv => whnf)
 ·refine cmpI ?_ ?_ <;> (intro h2; conv => whnf)
  ·exact ⟨dec_t ⟨h, h2⟩, rfl⟩
  ·exact ⟨dec_f (fun hh => h2 hh.2), rfl⟩
 ·exact ⟨dec_f (fun hh => h hh.1), rfl⟩
theorem smlF (r : Row) (hl : r.coef.length ≤ 140737488355328) : PSpec Tryd.prog 40 [.agg (encRw r)] (fun u => u = .bool (decide (smlB r))) := by
 refine PSpec.intro tt_ok mx_ok Tryd.func40 rfl (by decide) ?_; (conv => whnf)
 refine boxP rfl ?_
 conv => whnf
 refine WPc.loopF tt_ok mx_ok (fun k : Nat => k ≤ r.coef.length ∧ ∀ j, j < k → numB (r.coef.getD j 0)) (fun k => [(8, .int .i64 (k : Int))]) (fun _ => []) (fun k => r.coef.length - k) 0 ⟨Nat.zero_le _, fun j hj => absurd hj (Nat.not_lt_zero _)⟩ ?_; conv => whnf
 refine ⟨sI, ?_⟩
 rintro k ⟨hk, ha⟩
 conv => whnf
 refine cmpI ?_ ?_ <;> (intro h1; conv => whnf)
 ·refine nI ?_
  rw [tN]
  conv => whnf
  refine dC (withinF (r.coef.getD k 0)) (fun _ => ?_) (fun _ => ?_) <;> (conv => whnf)
  ·rename_i h2
   repeat' ((first|refine nI ?_|refine aI ?_|refine arU trivial (by omega) ?_|refine arB trivial (by omega) ?_|refine dI ?_|refine dR ?_|refine dP ?_|refine boxP rfl ?_|refine pI _ rfl ?_|refine rowSetI _ rfl ?_|refine tI ?_|refine fI ?_|refine cmpI (fun _ => ?_) (fun _ => ?_)) <;> conv => whnf)
   refine ⟨k + 1, sI, ⟨by omega, fun j hj => ?_⟩, by dsimp only; omega⟩
   by_cases e : j = k
   ·subst e; exact h2
   ·exact ha j (by omega)
  ·rename_i h2
   exact ⟨dec_f (fun h => h2 (h.1 k (by omega))), rfl⟩
 ·obtain rfl : k = r.coef.length := by omega
  by_cases h2 : numB r.const
  ·have hw := withinF r.const
   rw [decide_eq_true h2] at hw
   (refine oP (hw) ?_; conv => whnf)
   exact ⟨dec_t ⟨ha, h2⟩, rfl⟩
  ·have hw := withinF r.const
   rw [decide_eq_false h2] at hw
   (refine oP (hw) ?_; conv => whnf)
   exact ⟨dec_f (fun h => h2 h.2), rfl⟩
theorem sysE_a {s : LSys} (h : s.vars < 0 ∨ 96 < s.vars) : sysE s = 1 := by unfold sysE; rw [if_pos h]
theorem sysE_b {s : LSys} (h : ¬ widB s) : sysE s = 1 := by
 unfold sysE
 by_cases h0 : s.vars < 0 ∨ 96 < s.vars
 ·rw [if_pos h0]
 ·rw [if_neg h0, if_pos h]
theorem sysE_c {s : LSys} (h0 : ¬ (s.vars < 0 ∨ 96 < s.vars)) (h1 : widB s) (h : 192 < s.rows.length) : sysE s = 4 := by unfold sysE; rw [if_neg h0, if_neg (fun x => x h1), if_pos h]
theorem sysE_d {s : LSys} (h0 : ¬ (s.vars < 0 ∨ 96 < s.vars)) (h1 : widB s) (h2 : ¬ smlR s.rows) : sysE s = 4 := by
 unfold sysE
 rw [if_neg h0, if_neg (fun x => x h1)]
 by_cases h3 : 192 < s.rows.length
 ·rw [if_pos h3]
 ·rw [if_neg h3, if_pos h2]
theorem ValidateF (s : LSys) (hs : okS s) : PSpec Tryd.prog 21 [.agg (encSy s)] (fun u => u = .int .i64 (sysE s)) := by
 have hs1 := hs.1
 refine PSpec.intro tt_ok mx_ok Tryd.func21 rfl (by decide) ?_; (conv => whnf)
 refine boxP rfl ?_
 conv => whnf
 refine cmpI ?_ ?_ <;> (intro h; conv => whnf)
 ·exact ⟨avI (sysE_a (.inl h)).symm, rfl⟩
 refine cmpI (fun h' => ?_) (fun h' => ?_) <;> conv => whnf
 ·exact ⟨avI (sysE_a (.inr h')).symm, rfl⟩
 have h0 : ¬ (s.vars < 0 ∨ 96 < s.vars) := by omega
 refine WPc.loopF tt_ok mx_ok (fun k : Nat => k ≤ s.rows.length ∧ ∀ j, j < k → ((s.rows.getD j row0).coef.length : Int) = s.vars) (fun k => [(18, .int .i64 (k : Int))]) (fun _ => []) (fun k => s.rows.length - k) 0 ⟨Nat.zero_le _, fun j hj => absurd hj (Nat.not_lt_zero _)⟩ ?_; conv => whnf
 refine ⟨sI, ?_⟩
 rintro k ⟨hk, ha⟩
 conv => whnf
 refine cmpI ?_ ?_ <;> (intro h1; conv => whnf)
 ·refine nI ?_
  rw [tN]
  conv => whnf
  have hc := hs.2 k (by omega)
  refine cmpI ?_ ?_ <;> (intro h2; conv => whnf)
  ·exact ⟨avI (sysE_b fun hw => h2 (hw k (by omega))).symm, rfl⟩
  ·repeat' ((first|refine nI ?_|refine aI ?_|refine arU trivial (by omega) ?_|refine arB trivial (by omega) ?_|refine dI ?_|refine dR ?_|refine dP ?_|refine boxP rfl ?_|refine pI _ rfl ?_|refine rowSetI _ rfl ?_|refine tI ?_|refine fI ?_|refine cmpI (fun _ => ?_) (fun _ => ?_)) <;> conv => whnf)
   refine ⟨k + 1, sI, ⟨by omega, fun j hj => ?_⟩, by dsimp only; omega⟩
   by_cases e : j = k
   ·subst e; exact Classical.not_not.1 h2
   ·exact ha j (by omega)
 ·obtain rfl : k = s.rows.length := by omega
  have hw : widB s := ha
  refine cmpI ?_ ?_ <;> (intro h2; conv => whnf)
  ·exact ⟨avI (sysE_c h0 hw (by omega)).symm, rfl⟩
  refine WPc.loopF tt_ok mx_ok (fun k : Nat => k ≤ s.rows.length ∧ ∀ j, j < k → smlB (s.rows.getD j row0)) (fun k => [(36, .int .i64 (k : Int))]) (fun _ => []) (fun k => s.rows.length - k) 0 ⟨Nat.zero_le _, fun j hj => absurd hj (Nat.not_lt_zero _)⟩ ?_; conv => whnf
  refine ⟨sI, ?_⟩
  rintro k ⟨hk, hb⟩
  conv => whnf
  refine cmpI ?_ ?_ <;> (intro h1; conv => whnf)
  ·refine nI ?_
   rw [tN]
   conv => whnf
   have hc := hs.2 k (by omega)
   refine dC (smlF (s.rows.getD k row0) hc) (fun _ => ?_) (fun _ => ?_) <;> (conv => whnf)
   ·rename_i h3
    repeat' ((first|refine nI ?_|refine aI ?_|refine arU trivial (by omega) ?_|refine arB trivial (by omega) ?_|refine dI ?_|refine dR ?_|refine dP ?_|refine boxP rfl ?_|refine pI _ rfl ?_|refine rowSetI _ rfl ?_|refine tI ?_|refine fI ?_|refine cmpI (fun _ => ?_) (fun _ => ?_)) <;> conv => whnf)
    refine ⟨k + 1, sI, ⟨by omega, fun j hj => ?_⟩, by dsimp only; omega⟩
    by_cases e : j = k
    ·subst e; exact h3
    ·exact hb j (by omega)
   ·rename_i h3
    exact ⟨avI (sysE_d h0 hw (fun hh => h3 (hh k (by omega)))).symm, rfl⟩
  ·obtain rfl : k = s.rows.length := by omega
   exact ⟨avI (sysE_mk (by omega) hw (by omega) hb).symm, rfl⟩
theorem onPointF (x : List Int) (hl : x.length ≤ 140737488355328) : PSpec Tryd.prog 22 [.sl 0 encI x] (fun u => u = .bool (decide (pntB x))) := by
 refine PSpec.intro tt_ok mx_ok Tryd.func22 rfl (by decide) ?_; (conv => whnf)
 refine WPc.loopF tt_ok mx_ok (fun k : Nat => k ≤ x.length ∧ ∀ j, j < k → 0 ≤ x.getD j 0 ∧ x.getD j 0 ≤ 1048576) (fun k => [(7, .int .i64 (k : Int))]) (fun _ => []) (fun k => x.length - k) 0 ⟨Nat.zero_le _, fun j hj => absurd hj (Nat.not_lt_zero _)⟩ ?_; conv => whnf
 refine ⟨sI, ?_⟩
 rintro k ⟨hk, ha⟩
 conv => whnf
 refine cmpI ?_ ?_ <;> (intro h1; conv => whnf)
 ·refine nI ?_
  rw [tN]
  conv => whnf
  refine cmpI ?_ ?_ <;> (intro h2; conv => whnf)
  ·exact ⟨dec_f (fun h => by have := h k (by omega); omega), rfl⟩
  refine cmpI ?_ ?_ <;> (intro h3; conv => whnf)
  ·exact ⟨dec_f (fun h => by have := h k (by omega); omega), rfl⟩
  repeat' ((first|refine nI ?_|refine aI ?_|refine arU trivial (by omega) ?_|refine arB trivial (by omega) ?_|refine dI ?_|refine dR ?_|refine dP ?_|refine boxP rfl ?_|refine pI _ rfl ?_|refine rowSetI _ rfl ?_|refine tI ?_|refine fI ?_|refine cmpI (fun _ => ?_) (fun _ => ?_)) <;> conv => whnf)
  refine ⟨k + 1, sI, ⟨by omega, fun j hj => ?_⟩, by dsimp only; omega⟩
  by_cases e : j = k
  ·subst e; omega
  ·exact ha j (by omega)
 ·obtain rfl : k = x.length := by omega
  exact ⟨dec_t ha, rfl⟩
def valP (r : Row) (x : List Int) : Prop := r.coef.length = x.length ∧ x.length ≤ 96 ∧ pntB x
instance (r : Row) (x : List Int) : Decidable (valP r x) := inferInstanceAs (Decidable (_ ∧ _))
def valX (r : Row) (x : List Int) : Int × Int := if valP r x then (if smlB r then (valR r x, 0) else (0, 4)) else (0, 1)
def valA2 (a : Int × Int) : AV := .tup [.int .i64 a.1, .int .i64 a.2]
theorem valX_1 {r : Row} {x : List Int} (h : ¬ valP r x) : valX r x = (0, 1) := by unfold valX; rw [if_neg h]
theorem valX_4 {r : Row} {x : List Int} (h : valP r x) (h2 : ¬ smlB r) : valX r x = (0, 4) := by unfold valX; rw [if_pos h, if_neg h2]
theorem valX_0 {r : Row} {x : List Int} (h : valP r x) (h2 : smlB r) : valX r x = (valR r x, 0) := by unfold valX; rw [if_pos h, if_pos h2]
theorem ValueF (r : Row) (x : List Int) (hr : r.coef.length ≤ 140737488355328) (hx : x.length ≤ 140737488355328) :
  PSpec Tryd.prog 23 [.agg (encRw r), .sl 0 encI x] (fun u => u = valA2 (valX r x)) := by
 refine PSpec.intro tt_ok mx_ok Tryd.func23 rfl (by decide) ?_; (conv => whnf)
 refine boxP rfl ?_
 conv => whnf
 refine cmpI ?_ ?_ <;> (intro h; conv => whnf)
 ·exact ⟨by rw [valX_1 (fun hh => h (by have := hh.1; omega))]; rfl, rfl⟩
 refine cmpI (fun h' => ?_) (fun h' => ?_) <;> conv => whnf
 ·exact ⟨by rw [valX_1 (fun hh => by have := hh.2.1; omega)]; rfl, rfl⟩
 refine dC (onPointF x hx) (fun _ => ?_) (fun _ => ?_) <;> (conv => whnf)
 case refine_2 => rename_i h2; exact ⟨by rw [valX_1 (fun hh => h2 hh.2.2)]; rfl, rfl⟩
 rename_i h2
 have hp : valP r x := ⟨by omega, by omega, h2⟩
 refine dC (smlF r hr) (fun _ => ?_) (fun _ => ?_) <;> (conv => whnf)
 case refine_2 => rename_i h3; exact ⟨by rw [valX_4 hp h3]; rfl, rfl⟩
 rename_i h3
 refine WPc.loopF tt_ok mx_ok (fun k : Nat => k ≤ r.coef.length) (fun k => [(33, .int .i64 (k : Int)), (6, .int .i64 (r.const + lftK r.coef x k))]) (fun _ => []) (fun k => r.coef.length - k) 0 (Nat.zero_le _) ?_; conv => whnf
 refine ⟨?_, ?_⟩
 ·show Sub _ _ _ _ _
  rw [lftK, Int.add_zero]
  exact sI
 rintro k hk
 have hc := h3.2
 unfold numB at hc
 have hb := lftK_b h3.1 h2 (by omega) k (by omega)
 conv => whnf
 refine cmpI ?_ ?_ <;> (intro h1; conv => whnf)
 ·refine nI ?_
  rw [tN]
  conv => whnf
  refine nI ?_
  rw [tN]
  conv => whnf
  have hm := mul_36 (h3.1 k (by omega)) (h2 k (by omega))
  refine aI ?_
  conv => whnf
  refine aI ?_
  conv => whnf
  repeat' ((first|refine nI ?_|refine aI ?_|refine arU trivial (by omega) ?_|refine arB trivial (by omega) ?_|refine dI ?_|refine dR ?_|refine dP ?_|refine boxP rfl ?_|refine pI _ rfl ?_|refine rowSetI _ rfl ?_|refine tI ?_|refine fI ?_|refine cmpI (fun _ => ?_) (fun _ => ?_)) <;> conv => whnf)
  refine ⟨k + 1, ?_, by omega, by dsimp only; omega⟩
  dsimp only
  rw [lftK, ← Int.add_assoc]
  exact sI
 ·obtain rfl : k = r.coef.length := by omega
  exact ⟨by rw [valX_0 hp h3]; rfl, rfl⟩
theorem SatisfiesF (s : LSys) (x : List Int) (hs : okS s) (hx : x.length ≤ 140737488355328) : PSpec Tryd.prog 9 [.agg (encSy s), .sl 0 encI x] (fun u => u = .bool (decide (satB s x))) := by
 refine PSpec.intro tt_ok mx_ok Tryd.func9 rfl (by decide) ?_; (conv => whnf)
 refine boxP rfl ?_
 conv => whnf
 (refine oP (ValidateF s hs) ?_; conv => whnf)
 refine cmpI ?_ ?_ <;> (intro h; conv => whnf)
 ·exact ⟨dec_f (fun hh => h hh.1), rfl⟩
 have h0 : sysE s = 0 := Classical.not_not.1 h
 obtain ⟨a1, a2, a3, a4⟩ := sysE_ok h0
 refine cmpI (fun h' => ?_) (fun h' => ?_) <;> conv => whnf
 ·exact ⟨dec_f (fun hh => h' hh.2.1), rfl⟩
 have hl : (x.length : Int) = s.vars := Classical.not_not.1 h'
 refine dC (onPointF x hx) (fun _ => ?_) (fun _ => ?_) <;> (conv => whnf)
 case refine_2 => rename_i h2; exact ⟨dec_f (fun hh => h2 hh.2.2.1), rfl⟩
 rename_i h2
 refine WPc.loopF tt_ok mx_ok (fun k : Nat => k ≤ s.rows.length ∧ ∀ j, j < k → 0 ≤ valR (s.rows.getD j row0) x) (fun k => [(27, .int .i64 (k : Int))]) (fun _ => []) (fun k => s.rows.length - k) 0 ⟨Nat.zero_le _, fun j hj => absurd hj (Nat.not_lt_zero _)⟩ ?_; conv => whnf
 refine ⟨sI, ?_⟩
 rintro k ⟨hk, ha⟩
 conv => whnf
 refine cmpI ?_ ?_ <;> (intro h1; conv => whnf)
 ·refine nI ?_
  rw [tN]
  conv => whnf
  have hc := hs.2 k (by omega)
  have hw := a2 k (by omega)
  have hv := valX_0 (r := s.rows.getD k row0) (x := x) ⟨by omega, by omega, h2⟩ (a4 k (by omega))
  have hV := ValueF (s.rows.getD k row0) x hc hx
  rw [hv] at hV
  (refine oP (hV) ?_; conv => whnf)
  refine fI ?_
  conv => whnf
  refine cmpI ?_ ?_ <;> (intro h3; conv => whnf)
  ·exact ⟨dec_f (fun hh => by have := hh.2.2.2 k (by omega); omega), rfl⟩
  repeat' ((first|refine nI ?_|refine aI ?_|refine arU trivial (by omega) ?_|refine arB trivial (by omega) ?_|refine dI ?_|refine dR ?_|refine dP ?_|refine boxP rfl ?_|refine pI _ rfl ?_|refine rowSetI _ rfl ?_|refine tI ?_|refine fI ?_|refine cmpI (fun _ => ?_) (fun _ => ?_)) <;> conv => whnf)
  refine ⟨k + 1, sI, ⟨by omega, fun j hj => ?_⟩, by dsimp only; omega⟩
  by_cases e : j = k
  ·subst e; omega
  ·exact ha j (by omega)
 ·obtain rfl : k = s.rows.length := by omega
  exact ⟨dec_t ⟨h0, hl, h2, ha⟩, rfl⟩
end Go.Proofs.YtfoplfpbjajljaaDoor
