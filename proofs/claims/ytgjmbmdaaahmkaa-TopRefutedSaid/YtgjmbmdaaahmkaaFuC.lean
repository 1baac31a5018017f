
/-
  A refutation that is correct excludes every point.
-/
import Derived.Test.YtgjmbmdaaahmkaaFuB
set_option linter.unusedVariables false
set_option linter.unusedSimpArgs false
namespace Go.Proofs.Ytgjmbmdaaahmkaa
set_option maxRecDepth 100000
set_option maxHeartbeats 8000000

theorem lft_congr {c c' x : List Int} {n : Nat} (h : ∀ j, j < n → c.getD j 0 = c'.getD j 0) : lftK c x n = lftK c' x n := by
  induction n with
  | zero => rfl
  | succ n ih => rw [lftK, lftK, ih fun j hj => h j (by omega), h n (by omega)]
theorem lft_put {c x : List Int} {v : Nat} {a : Int} (hv : v < c.length) : ∀ k, lftK (c.set v a) x k = lftK c x k + if v < k then (a - c.getD v 0) * x.getD v 0 else 0
  | 0 => by simp [lftK]
  | k + 1 => by
    rw [lftK, lftK, lft_put hv k]
    by_cases e : v = k
    · subst e
      have : (c.set v a).getD v 0 = a := by
        rw [List.getD_eq_getElem?_getD, List.getElem?_set_self hv]; rfl
      rw [this, if_neg (by omega), if_pos (by omega), Int.sub_mul]
      omega
    · have : (c.set v a).getD k 0 = c.getD k 0 := by
        rw [List.getD_eq_getElem?_getD, List.getElem?_set_ne e, ← List.getD_eq_getElem?_getD]
      rw [this]
      by_cases h : v < k
      · rw [if_pos h, if_pos (by omega)]; omega
      · rw [if_neg h, if_neg (by omega)]; omega
theorem lft_mix {c r x : List Int} {k : Int} {n : Nat} : ∀ m, m ≤ n → lftK ((List.range n).map fun j => c.getD j 0 + k * r.getD j 0) x m = lftK c x m + k * lftK r x m
  | 0, _ => by simp [lftK]
  | m + 1, h => by
    rw [lftK, lftK, lftK, lft_mix m (by omega), getD_elem 0 (by simp; omega), List.getElem_map, List.getElem_range, Int.add_mul, Int.mul_add, Int.mul_assoc]
    omega
theorem lft_zero (x : List Int) (n : Nat) : ∀ k, lftK (List.replicate n 0) x k = 0
  | 0 => rfl
  | k + 1 => by
    rw [lftK, lft_zero x n k]
    have : (List.replicate n (0 : Int)).getD k 0 = 0 := by
      rw [List.getD_eq_getElem?_getD, List.getElem?_replicate]; split <;> rfl
    rw [this]; simp
/-- a point with coordinates from 0 on that satisfies rows -/
structure OnR (vars : Nat) (x : List Int) (rows : List Row) : Prop where
  len : x.length = vars
  pos : ∀ j, 0 ≤ x.getD j 0
  sat : ∀ j, j < rows.length → 0 ≤ valR (rows.getD j row0) x
theorem OnR.app {vars : Nat} {x : List Int} {rows : List Row} {r : Row} (h : OnR vars x rows) (hr : 0 ≤ valR r x) : OnR vars x (rows ++ [r]) := by
  refine ⟨h.len, h.pos, fun j hj => ?_⟩
  rw [List.length_append] at hj
  by_cases e : j < rows.length
  · rw [List.getD_eq_getElem?_getD, List.getElem?_append_left e, ← List.getD_eq_getElem?_getD]; exact h.sat j e
  · have : j = rows.length := by simp only [List.length_cons, List.length_nil] at hj; omega
    subst this
    rw [List.getD_eq_getElem?_getD, List.getElem?_append_right (Nat.le_refl _), Nat.sub_self]
    exact hr
theorem sum_nonneg {vars : Nat} {x : List Int} {rows : List Row} {d : Der} (h : OnR vars x rows) (hr : rdyR vars rows) : ∀ i, (∀ k, k < i → trmB vars rows.length d k) → 0 ≤ dvK rows d i + lftK (dvC vars rows d i) x vars
  | 0, _ => by rw [dvK, dvC, lft_zero]; omega
  | i + 1, ht => by
    have ih := sum_nonneg h hr i fun k hk => ht k (by omega)
    have hi := ht i (by omega)
    have hl := dvC_len vars rows d i
    rw [dvK, dvC]
    split
    · rename_i hs
      rw [lft_put (by have := hi.1; omega), if_pos (by have := hi.1; omega)]
      have e : (dvC vars rows d i).getD (-1 - d.src.getD i 0).toNat 0 + d.mult.getD i 0 - (dvC vars rows d i).getD (-1 - d.src.getD i 0).toNat 0 = d.mult.getD i 0 := by omega
      rw [e]
      have := Int.mul_nonneg (show 0 ≤ d.mult.getD i 0 by have := hi.2; omega) (h.pos (-1 - d.src.getD i 0).toNat)
      omega
    · rename_i hs
      have hn : (d.src.getD i 0).toNat < rows.length := by have := hi.1; omega
      rw [lft_mix vars (Nat.le_refl _)]
      have hv := h.sat _ hn
      unfold valR at hv
      rw [(hr _ hn).1] at hv
      have := Int.mul_nonneg (show 0 ≤ d.mult.getD i 0 by have := hi.2; omega) hv
      rw [Int.mul_add] at this
      omega
theorem lft_div {c x : List Int} {d : Int} (hd : ∀ j, j < c.length → (c.getD j 0).tmod d = 0) : ∀ k, k ≤ c.length → d * lftK (c.map (·.tdiv d)) x k = lftK c x k
  | 0, _ => by simp [lftK]
  | k + 1, hk => by
    rw [lftK, lftK, Int.mul_add, lft_div hd k (by omega)]
    have e : (c.map (·.tdiv d)).getD k 0 = (c.getD k 0).tdiv d := by
      rw [getD_elem 0 (by simp; omega), List.getElem_map, getD_elem 0 (by omega)]
    rw [e, ← Int.mul_assoc]
    congr 2
    have := Int.mul_tdiv_add_tmod (c.getD k 0) d
    rw [hd k (by omega)] at this
    omega
theorem flr_ge {a d s : Int} (hd : 1 ≤ d) (h : 0 ≤ a + d * s) : 0 ≤ flr a d + s := by
  unfold flr
  have e := Int.mul_tdiv_add_tmod a d
  have hm := Int.tmod_lt_of_pos a (show 0 < d by omega)
  generalize a.tdiv d = q at *
  generalize a.tmod d = r at *
  by_cases hr : r < 0
  · rw [if_pos hr]
    refine Classical.byContradiction fun hn => ?_
    have h1 : q + s ≤ 0 := by omega
    have h2 : d * (q + s) ≤ 0 := Int.mul_nonpos_of_nonneg_of_nonpos (by omega) h1
    rw [Int.mul_add] at h2
    omega
  · rw [if_neg hr]
    refine Classical.byContradiction fun hn => ?_
    have h1 : q + s ≤ -1 := by omega
    have h2 : d * (q + s) ≤ d * (-1) := Int.mul_le_mul_of_nonneg_left h1 (by omega)
    rw [Int.mul_add] at h2
    omega
theorem dv_sound {vars : Nat} {x : List Int} {rows : List Row} {d : Der} (h : OnR vars x rows) (hr : rdyR vars rows) (hd : dvB vars rows d) : 0 ≤ valR (dvR vars rows d) x := by
  obtain ⟨h1, h2, h3, _⟩ := hd
  have hs := sum_nonneg h hr _ h2
  have hl := dvC_len vars rows d d.src.length
  unfold valR dvR
  dsimp only
  rw [List.length_map, hl]
  refine flr_ge h1.2.2.1 ?_
  rw [lft_div (fun j hj => h3 j (by omega)) vars (by omega)]
  exact hs
theorem con_neg {r : Row} {x : List Int} (hc : conB r) (hp : ∀ j, 0 ≤ x.getD j 0) : valR r x < 0 := by
  have key : ∀ k, k ≤ r.coef.length → lftK r.coef x k ≤ 0 := by
    intro k
    induction k with
    | zero => intro _; simp [lftK]
    | succ k ih =>
      intro hk
      have a := ih (by omega)
      have b := Int.mul_nonpos_of_nonpos_of_nonneg (hc.1 k (by omega)) (hp k)
      rw [lftK]; omega
  have := key _ (Nat.le_refl _)
  have := hc.2
  unfold valR
  omega
theorem ln_sound {vars : Nat} {x : List Int} {l : List Der} {rows : List Row} (h : OnR vars x rows) (hr : rdyR vars rows) : ∀ {k : Nat} {a : List Row}, lnR vars rows l k = some a → OnR vars x a
  | 0, a, e => by cases e; exact h
  | k + 1, a, e => by
    rw [lnR] at e
    cases hk : lnR vars rows l k with
    | none => rw [hk] at e; cases e
    | some b =>
      rw [hk] at e
      dsimp only at e
      have h1 := ln_sound h hr hk
      split at e
      · rename_i hd
        cases e
        exact h1.app (dv_sound h1 (lnR_rdy hr hk).1 hd)
      · cases e
theorem spl_val {vars : Nat} {x : List Int} {v a k : Int} (hv : 0 ≤ v ∧ v < vars) : valR ⟨(List.replicate vars 0).set v.toNat a, k⟩ x = k + a * x.getD v.toNat 0 := by
  unfold valR
  dsimp only
  rw [List.length_set, List.length_replicate, lft_put (by simp; omega), lft_zero, if_pos (by omega)]
  have : (List.replicate vars (0 : Int)).getD v.toNat 0 = 0 := by
    rw [List.getD_eq_getElem?_getD, List.getElem?_replicate]; split <;> rfl
  rw [this]
  congr 1
  rw [Int.sub_zero, Int.zero_add]
theorem clo_sound {vars : Nat} {nodes : List Nod} {x : List Int} (hv : ∀ i, i < nodes.length → nodV vars nodes.length i (nodes.getD i nod0)) : ∀ (m i : Nat) (rows : List Row), i < nodes.length → OnR vars x rows → rdyR vars rows → cloB vars nodes m i rows = false
  | 0, _, _, _, _, _ => rfl
  | m + 1, i, rows, hi, h, hr => by
    rw [cloB]
    cases hl : lnR vars rows (nodes.getD i nod0).lines (nodes.getD i nod0).lines.length with
    | none => rfl
    | some a =>
      dsimp only
      have ha := ln_sound h hr hl
      have hra := (lnR_rdy hr hl).1
      split
      · refine decide_eq_false fun hs => ?_
        obtain ⟨j, hj, hc⟩ := hs
        have := con_neg hc h.pos
        have := ha.sat j hj
        omega
      · rename_i hn
        have hx := hv i hi
        unfold nodV at hx
        have hx : ((0 ≤ (nodes.getD i nod0).var ∧ (nodes.getD i nod0).var < vars) ∧ (0 ≤ (nodes.getD i nod0).at_ ∧ (nodes.getD i nod0).at_ ≤ 1048576) ∧ ((i : Int) < (nodes.getD i nod0).left ∧ (nodes.getD i nod0).left < nodes.length) ∧ ((i : Int) < (nodes.getD i nod0).right ∧ (nodes.getD i nod0).right < nodes.length)) := hx.resolve_left hn
        obtain ⟨v1, a1, l1, r1⟩ := hx
        by_cases hxv : x.getD (nodes.getD i nod0).var.toNat 0 ≤ (nodes.getD i nod0).at_
        · have hL : OnR vars x (a ++ [splL vars (nodes.getD i nod0).var (nodes.getD i nod0).at_]) := ha.app (by unfold splL; rw [spl_val v1]; omega)
          have hLr : rdyR vars (a ++ [splL vars (nodes.getD i nod0).var (nodes.getD i nod0).at_]) := rdy_app hra (spl_rdy (.inr rfl) (by unfold numB; omega))
          rw [clo_sound hv m _ _ (by omega) hL hLr, Bool.false_and]
        · have hR : OnR vars x (a ++ [splR vars (nodes.getD i nod0).var ((nodes.getD i nod0).at_ + 1)]) := ha.app (by unfold splR; rw [spl_val v1]; omega)
          have hRr : rdyR vars (a ++ [splR vars (nodes.getD i nod0).var ((nodes.getD i nod0).at_ + 1)]) := rdy_app hra (spl_rdy (.inl rfl) (by unfold numB; omega))
          rw [clo_sound hv m (nodes.getD i nod0).right.toNat _ (by omega) hR hRr, Bool.and_false]
theorem ref_sound {s : LSys} {nodes : List Nod} (h : refB s nodes) (x : List Int) : ¬ satB s x := by
  rintro ⟨_, h2, h3, h4⟩
  obtain ⟨a1, a2, a3⟩ := h
  have hp : ∀ j, 0 ≤ x.getD j 0 := by
    intro j
    by_cases hj : j < x.length
    · exact (h3 j hj).1
    · rw [List.getD_eq_getElem?_getD, List.getElem?_eq_none (by omega)]; simp
  have hvars := (sysE_ok a1).1
  have := clo_sound (x := x) a2.2.1 nodes.length 0 s.rows (by have := a2.1; omega) ⟨by omega, hp, h4⟩ (sys_rdy a1)
  rw [a3] at this
  cases this
end Go.Proofs.Ytgjmbmdaaahmkaa
