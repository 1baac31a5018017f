
/-
  Refutations plainly: derivations, the tree of nodes, and which refutations are correct.
-/
import Derived.Test.YtgjmbmdaaahmkaaFuA
set_option linter.unusedVariables false
set_option linter.unusedSimpArgs false
namespace Go.Proofs.Ytgjmbmdaaahmkaa
set_option maxRecDepth 100000
set_option maxHeartbeats 8000000

structure Der where
  src : List Int
  mult : List Int
  div : Int
structure Nod where
  lines : List Der
  var : Int
  at_ : Int
  left : Int
  right : Int
def der0 : Der := ⟨[], [], 0⟩
def nod0 : Nod := ⟨[], 0, 0, 0, 0⟩
def encDe (d : Der) : List AV := [.sl 0 encI d.src, .sl 0 encI d.mult, .int .i64 d.div]
def encNo (n : Nod) : List AV := [.sl der0 encDe n.lines, .int .i64 n.var, .int .i64 n.at_, .int .i64 n.left, .int .i64 n.right]

/-! ### derivations -/
/-- the coefficients and the constant behind some terms -/
def dvC (vars : Nat) (rows : List Row) (d : Der) : Nat → List Int
  | 0 => List.replicate vars 0
  | i + 1 =>
    if d.src.getD i 0 < 0 then (dvC vars rows d i).set (-1 - d.src.getD i 0).toNat ((dvC vars rows d i).getD (-1 - d.src.getD i 0).toNat 0 + d.mult.getD i 0)
    else (List.range vars).map fun j => (dvC vars rows d i).getD j 0 + d.mult.getD i 0 * (rows.getD (d.src.getD i 0).toNat row0).coef.getD j 0
def dvK (rows : List Row) (d : Der) : Nat → Int
  | 0 => 0
  | i + 1 => if d.src.getD i 0 < 0 then dvK rows d i else dvK rows d i + d.mult.getD i 0 * (rows.getD (d.src.getD i 0).toNat row0).const
def trmB (vars n : Nat) (d : Der) (i : Nat) : Prop := (-(vars : Int) ≤ d.src.getD i 0 ∧ d.src.getD i 0 < n) ∧ 1 ≤ d.mult.getD i 0 ∧ d.mult.getD i 0 ≤ 65536
instance (vars n : Nat) (d : Der) (i : Nat) : Decidable (trmB vars n d i) := inferInstanceAs (Decidable (_ ∧ _))
def hedB (d : Der) : Prop := d.src.length = d.mult.length ∧ (1 ≤ d.src.length ∧ d.src.length ≤ 64) ∧ 1 ≤ d.div ∧ d.div ≤ 68719476736
instance (d : Der) : Decidable (hedB d) := inferInstanceAs (Decidable (_ ∧ _))
/-- rounded down -/
def flr (a d : Int) : Int := if a.tmod d < 0 then a.tdiv d - 1 else a.tdiv d
def dvR (vars : Nat) (rows : List Row) (d : Der) : Row := ⟨(dvC vars rows d d.src.length).map (·.tdiv d.div), flr (dvK rows d d.src.length) d.div⟩
def dvB (vars : Nat) (rows : List Row) (d : Der) : Prop :=
  hedB d ∧ (∀ i, i < d.src.length → trmB vars rows.length d i) ∧ (∀ j, j < vars → ((dvC vars rows d d.src.length).getD j 0).tmod d.div = 0) ∧ smlB (dvR vars rows d)
instance (vars : Nat) (rows : List Row) (d : Der) : Decidable (dvB vars rows d) := inferInstanceAs (Decidable (_ ∧ _))
/-- rows of a system that is being refuted: each as wide as the system, with small numbers -/
def rdyR (vars : Nat) (rows : List Row) : Prop := ∀ j, j < rows.length → (rows.getD j row0).coef.length = vars ∧ smlB (rows.getD j row0)
theorem dvC_len (vars : Nat) (rows : List Row) (d : Der) : ∀ i, (dvC vars rows d i).length = vars
  | 0 => by simp [dvC]
  | i + 1 => by
    rw [dvC]
    split
    · rw [List.length_set, dvC_len vars rows d i]
    · simp
theorem mul_52 {a b : Int} (ha : numB a) (hb : 1 ≤ b ∧ b ≤ 65536) : -4503599627370496 ≤ b * a ∧ b * a ≤ 4503599627370496 := by
  have h1 : b * a ≤ b * 68719476736 := Int.mul_le_mul_of_nonneg_left ha.2 (by omega)
  have h2 : b * -68719476736 ≤ b * a := Int.mul_le_mul_of_nonneg_left ha.1 (by omega)
  omega
theorem dvC_b {vars : Nat} {rows : List Row} {d : Der} (hr : rdyR vars rows) : ∀ (i : Nat), (∀ k, k < i → trmB vars rows.length d k) → ∀ j, -4503599627370496 * (i : Int) ≤ (dvC vars rows d i).getD j 0 ∧ (dvC vars rows d i).getD j 0 ≤ 4503599627370496 * (i : Int)
  | 0, _, j => by
    have : (dvC vars rows d 0).getD j 0 = 0 := by
      rw [dvC, List.getD_eq_getElem?_getD, List.getElem?_replicate]; split <;> rfl
    rw [this]; simp
  | i + 1, h, j => by
    have ih := dvC_b hr i (fun k hk => h k (by omega))
    have ht := h i (by omega)
    rw [dvC]
    split
    · rename_i hs
      by_cases e : (-1 - d.src.getD i 0).toNat = j
      · by_cases hj : j < (dvC vars rows d i).length
        · subst e
          rw [List.getD_eq_getElem?_getD, List.getElem?_set_self hj]
          have := ih (-1 - d.src.getD i 0).toNat
          have := ht.2
          simp only [Option.getD_some]
          omega
        · rw [List.getD_eq_getElem?_getD, List.getElem?_eq_none (by simp only [List.length_set]; omega)]
          simp only [Option.getD_none]
          omega
      · rw [List.getD_eq_getElem?_getD, List.getElem?_set_ne e, ← List.getD_eq_getElem?_getD]
        have := ih j
        omega
    · rename_i hs
      by_cases hj : j < vars
      · rw [getD_elem 0 (by simpa using hj), List.getElem_map, List.getElem_range]
        have a := ih j
        have hrow := hr (d.src.getD i 0).toNat (by have := ht.1; omega)
        have b : numB ((rows.getD (d.src.getD i 0).toNat row0).coef.getD j 0) := hrow.2.1 j (by omega)
        have c := mul_52 b ht.2
        omega
      · rw [List.getD_eq_getElem?_getD, List.getElem?_eq_none (by simpa using hj)]
        simp only [Option.getD_none]
        omega
theorem dvK_b {vars : Nat} {rows : List Row} {d : Der} (hr : rdyR vars rows) : ∀ (i : Nat), (∀ k, k < i → trmB vars rows.length d k) → -4503599627370496 * (i : Int) ≤ dvK rows d i ∧ dvK rows d i ≤ 4503599627370496 * (i : Int)
  | 0, _ => by simp [dvK]
  | i + 1, h => by
    have ih := dvK_b hr i (fun k hk => h k (by omega))
    have ht := h i (by omega)
    rw [dvK]
    split
    · omega
    · have hrow := hr (d.src.getD i 0).toNat (by have := ht.1; omega)
      have c := mul_52 hrow.2.2 ht.2
      omega
theorem dvR_rdy {vars : Nat} {rows : List Row} {d : Der} (h : dvB vars rows d) : (dvR vars rows d).coef.length = vars ∧ smlB (dvR vars rows d) :=
  ⟨by simp [dvR, dvC_len], h.2.2.2⟩

/-! ### the tree -/
def nodV (vars n i : Nat) (x : Nod) : Prop := x.var = -1 ∨ ((0 ≤ x.var ∧ x.var < vars) ∧ (0 ≤ x.at_ ∧ x.at_ ≤ 1048576) ∧ ((i : Int) < x.left ∧ x.left < n) ∧ ((i : Int) < x.right ∧ x.right < n))
instance (vars n i : Nat) (x : Nod) : Decidable (nodV vars n i x) := inferInstanceAs (Decidable (_ ∨ _))
/-- how often a node is named as a child among the first nodes -/
def parM (nodes : List Nod) (c : Int) : Nat → Int
  | 0 => 0
  | k + 1 => parM nodes c k + (if (nodes.getD k nod0).var = -1 then 0 else (if (nodes.getD k nod0).left = c then 1 else 0) + (if (nodes.getD k nod0).right = c then 1 else 0))
def linN (nodes : List Nod) : Nat → Nat
  | 0 => 0
  | k + 1 => linN nodes k + (nodes.getD k nod0).lines.length
def wefB (vars : Nat) (nodes : List Nod) : Prop :=
  (1 ≤ nodes.length ∧ nodes.length ≤ 400) ∧ (∀ i, i < nodes.length → nodV vars nodes.length i (nodes.getD i nod0)) ∧ (∀ i, i < nodes.length → 0 < i → parM nodes i nodes.length = 1) ∧ linN nodes nodes.length ≤ 400
instance (vars : Nat) (nodes : List Nod) : Decidable (wefB vars nodes) := inferInstanceAs (Decidable (_ ∧ _))
theorem parM_b (nodes : List Nod) (c : Int) : ∀ k, 0 ≤ parM nodes c k ∧ parM nodes c k ≤ 2 * (k : Int)
  | 0 => by simp [parM]
  | k + 1 => by
    have := parM_b nodes c k
    rw [parM]
    (repeat' split) <;> omega
theorem linN_mono (nodes : List Nod) {k m : Nat} (h : k ≤ m) : linN nodes k ≤ linN nodes m := by
  induction m with
  | zero => rw [Nat.le_zero.1 h]; exact Nat.le_refl _
  | succ m ih =>
    by_cases e : k = m + 1
    · rw [e]; exact Nat.le_refl _
    · have := ih (by omega); rw [linN]; omega
theorem linN_at (nodes : List Nod) {i : Nat} (h : i < nodes.length) : (nodes.getD i nod0).lines.length ≤ linN nodes nodes.length := by
  have := linN_mono nodes (show i + 1 ≤ nodes.length by omega)
  rw [linN] at this
  omega

/-! ### which nodes are closed -/
def conB (r : Row) : Prop := (∀ j, j < r.coef.length → r.coef.getD j 0 ≤ 0) ∧ r.const < 0
instance (r : Row) : Decidable (conB r) := inferInstanceAs (Decidable (_ ∧ _))
def someC (l : List Row) : Prop := ∃ j, j < l.length ∧ conB (l.getD j row0)
instance (l : List Row) : Decidable (someC l) := inferInstanceAs (Decidable (∃ j, j < l.length ∧ _))
/-- the rows behind the first lines of a node; nothing if a line is not correct -/
def lnR (vars : Nat) (rows : List Row) (l : List Der) : Nat → Option (List Row)
  | 0 => some rows
  | k + 1 => match lnR vars rows l k with
    | none => none
    | some a => if dvB vars a (l.getD k der0) then some (a ++ [dvR vars a (l.getD k der0)]) else none
def splL (vars : Nat) (v k : Int) : Row := ⟨(List.replicate vars 0).set v.toNat (-1), k⟩
def splR (vars : Nat) (v k : Int) : Row := ⟨(List.replicate vars 0).set v.toNat 1, -k⟩
def cloB (vars : Nat) (nodes : List Nod) : Nat → Nat → List Row → Bool
  | 0, _, _ => false
  | m + 1, i, rows => match lnR vars rows (nodes.getD i nod0).lines (nodes.getD i nod0).lines.length with
    | none => false
    | some a => if (nodes.getD i nod0).var = -1 then decide (someC a)
      else cloB vars nodes m (nodes.getD i nod0).left.toNat (a ++ [splL vars (nodes.getD i nod0).var (nodes.getD i nod0).at_]) && cloB vars nodes m (nodes.getD i nod0).right.toNat (a ++ [splR vars (nodes.getD i nod0).var ((nodes.getD i nod0).at_ + 1)])
def refB (s : LSys) (nodes : List Nod) : Prop := sysE s = 0 ∧ wefB s.vars.toNat nodes ∧ cloB s.vars.toNat nodes nodes.length 0 s.rows = true
instance (s : LSys) (nodes : List Nod) : Decidable (refB s nodes) := inferInstanceAs (Decidable (_ ∧ _))
/-- more fuel than there are nodes behind a node changes nothing -/
theorem cloB_fuel {vars : Nat} {nodes : List Nod} (hv : ∀ i, i < nodes.length → nodV vars nodes.length i (nodes.getD i nod0)) : ∀ (m m' i : Nat) (rows : List Row), i < nodes.length → nodes.length - i ≤ m → nodes.length - i ≤ m' → cloB vars nodes m i rows = cloB vars nodes m' i rows
  | 0, m', i, rows, hi, h, _ => by omega
  | m + 1, 0, i, rows, hi, _, h => by omega
  | m + 1, m' + 1, i, rows, hi, h1, h2 => by
    rw [cloB, cloB]
    cases hl : lnR vars rows (nodes.getD i nod0).lines (nodes.getD i nod0).lines.length with
    | none => rfl
    | some a =>
      dsimp only
      split
      · rfl
      · rename_i hn
        have hx := hv i hi
        unfold nodV at hx
        have hx : ((0 ≤ (nodes.getD i nod0).var ∧ (nodes.getD i nod0).var < vars) ∧ (0 ≤ (nodes.getD i nod0).at_ ∧ (nodes.getD i nod0).at_ ≤ 1048576) ∧ ((i : Int) < (nodes.getD i nod0).left ∧ (nodes.getD i nod0).left < nodes.length) ∧ ((i : Int) < (nodes.getD i nod0).right ∧ (nodes.getD i nod0).right < nodes.length)) := hx.resolve_left hn
        rw [cloB_fuel hv m m' _ _ (by omega) (by omega) (by omega), cloB_fuel hv m m' _ _ (by omega) (by omega) (by omega)]
theorem rdy_app {vars : Nat} {rows : List Row} {r : Row} (h : rdyR vars rows) (hr : r.coef.length = vars ∧ smlB r) : rdyR vars (rows ++ [r]) := by
  intro j hj
  rw [List.length_append] at hj
  by_cases e : j < rows.length
  · rw [List.getD_eq_getElem?_getD, List.getElem?_append_left e, ← List.getD_eq_getElem?_getD]; exact h j e
  · have : j = rows.length := by simp only [List.length_cons, List.length_nil] at hj; omega
    subst this
    rw [List.getD_eq_getElem?_getD, List.getElem?_append_right (Nat.le_refl _), Nat.sub_self]
    exact hr
theorem lnR_rdy {vars : Nat} {l : List Der} {rows : List Row} (h : rdyR vars rows) : ∀ {k : Nat} {a : List Row}, lnR vars rows l k = some a → rdyR vars a ∧ a.length = rows.length + k
  | 0, a, e => by cases e; exact ⟨h, rfl⟩
  | k + 1, a, e => by
    rw [lnR] at e
    cases hk : lnR vars rows l k with
    | none => rw [hk] at e; cases e
    | some b =>
      rw [hk] at e
      dsimp only at e
      obtain ⟨h1, h2⟩ := lnR_rdy h hk
      split at e
      · rename_i hd
        cases e
        exact ⟨rdy_app h1 (dvR_rdy hd), by rw [List.length_append, h2]; simp only [List.length_cons, List.length_nil]; omega⟩
      · cases e
theorem spl_rdy {vars : Nat} {v k x : Int} (hx : x = 1 ∨ x = -1) (hk : numB k) : (⟨(List.replicate vars 0).set v.toNat x, k⟩ : Row).coef.length = vars ∧ smlB ⟨(List.replicate vars 0).set v.toNat x, k⟩ := by
  refine ⟨by simp, fun j hj => ?_, hk⟩
  dsimp only at hj ⊢
  rw [List.getD_eq_getElem?_getD]
  by_cases e : v.toNat = j
  · subst e
    rw [List.getElem?_set_self (by simpa using hj)]
    rcases hx with rfl | rfl <;> decide
  · rw [List.getElem?_set_ne e, List.getElem?_replicate]
    split <;> decide
theorem sys_rdy {s : LSys} (h : sysE s = 0) : rdyR s.vars.toNat s.rows := by
  obtain ⟨h1, h2, _, h4⟩ := sysE_ok h
  intro j hj
  have := h2 j hj
  exact ⟨by omega, h4 j hj⟩
end Go.Proofs.Ytgjmbmdaaahmkaa
