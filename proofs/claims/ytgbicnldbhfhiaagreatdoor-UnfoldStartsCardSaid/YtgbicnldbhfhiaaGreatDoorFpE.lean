
/-
  The initial configurations, plainly: in ascending order, valid, and all that there are.
-/
import Derived.Test.YtgbicnldbhfhiaaGreatDoorFoX
import Derived.Test.YtgbicnldbhfhiaaGreatDoorFpBa
set_option linter.unusedVariables false
set_option linter.unusedSimpArgs false
namespace Go.Proofs.YtgbicnldbhfhiaaGreatDoor
set_option maxRecDepth 100000
set_option maxHeartbeats 16000000

theorem cmpL_same : ∀ (h a b : List Int), cmpL (h ++ a) (h ++ b) = cmpL a b
  | [], _, _ => rfl
  | x :: h, a, b => by
    simp only [List.cons_append, cmpL]
    rw [if_neg (by omega), if_neg (by omega)]
    exact cmpL_same h a b
theorem cmpL_lt : ∀ (h h' a b : List Int), h.length = h'.length → cmpL h h' < 0 → cmpL (h ++ a) (h' ++ b) < 0
  | [], [], a, b, _, h => by simp [cmpL] at h
  | [], _ :: _, _, _, e, _ => by simp at e
  | _ :: _, [], _, _, e, _ => by simp at e
  | x :: h, y :: h', a, b, e, hh => by
    simp only [List.cons_append, cmpL] at hh ⊢
    by_cases h1 : x < y
    · rw [if_pos h1]; decide
    · rw [if_neg h1] at hh ⊢
      by_cases h2 : y < x
      · rw [if_pos h2] at hh; omega
      · rw [if_neg h2] at hh ⊢
        exact cmpL_lt h h' a b (by simpa using e) hh
theorem incr_pw {l : List Int} (h : incr l) : l.Pairwise (· < ·) := by
  rw [List.pairwise_iff_getElem]
  intro i j hi hj hij
  have := incr_lt h j i hij hj
  rwa [getN hi, getN hj] at this
theorem ext_asc {out : List (List Int)} {c : List Int} {n : Nat} (ho : Asc out) (hn : ∀ w ∈ out, w.length = n) (hc : incr c) : Asc (extL out c) := by
  unfold Asc extL at *
  rw [List.pairwise_flatMap]
  constructor
  · intro h _
    rw [List.pairwise_map]
    refine (incr_pw hc).imp fun hxy => ?_
    rw [cmpL_same]
    simp only [cmpL]
    rw [if_pos hxy]
    decide
  · refine (List.Pairwise.imp_of_mem ?_ ho)
    intro a b ha hb hab x hx y hy
    simp only [List.mem_map] at hx hy
    obtain ⟨x, _, rfl⟩ := hx
    obtain ⟨y, _, rfl⟩ := hy
    exact cmpL_lt _ _ _ _ ((hn a ha).trans (hn b hb).symm) hab
theorem prod_asc {ch : Nat → List Int} (h : ∀ k, incr (ch k)) : ∀ k, Asc (prodK ch k)
  | 0 => List.pairwise_singleton _ _
  | k + 1 => ext_asc (prod_asc h k) (prod_word ch k) (h k)
theorem prod_mem (ch : Nat → List Int) : ∀ (n : Nat) (w : List Int), w ∈ prodK ch n ↔ w.length = n ∧ ∀ i, i < n → w.getD i 0 ∈ ch i
  | 0, w => by
    simp only [prodK, List.mem_singleton]
    constructor
    · rintro rfl; exact ⟨rfl, fun i hi => by omega⟩
    · rintro ⟨h, _⟩; exact List.length_eq_zero_iff.1 h
  | n + 1, w => by
    simp only [prodK, extL, List.mem_flatMap, List.mem_map]
    constructor
    · rintro ⟨a, ha, x, hx, rfl⟩
      obtain ⟨h1, h2⟩ := (prod_mem ch n a).1 ha
      refine ⟨by simp [h1], fun i hi => ?_⟩
      rw [List.getD_eq_getElem?_getD]
      by_cases e : i < n
      · rw [List.getElem?_append_left (by omega), ← List.getD_eq_getElem?_getD]
        exact h2 i e
      · obtain rfl : i = n := by omega
        rw [List.getElem?_append_right (by omega), h1, Nat.sub_self]
        exact hx
    · rintro ⟨h1, h2⟩
      refine ⟨w.take n, (prod_mem ch n _).2 ⟨by rw [List.length_take]; omega, fun i hi => ?_⟩, w.getD n 0, h2 n (by omega), ?_⟩
      · have := h2 i (by omega)
        rw [List.getD_eq_getElem?_getD] at this ⊢
        rwa [List.getElem?_take_of_lt hi]
      · rw [getN (by omega), ← List.take_succ_eq_append_getElem (by omega), List.take_of_length_le (by omega)]
theorem chF_ok {p : Pro} {q : Prp} (hv : propE p q = 0) (s : Siz) (k : Nat) : incr (chF p q s k) ∧ inR (chF p q s k) p.states.length := by
  obtain ⟨_, h1, h2⟩ := validE_init (propE_valid hv)
  have h3 := (propE_start hv).1
  have a1 := setE_ok h1
  have a2 := setE_ok h2
  have a3 := setE_ok h3
  unfold chF stL
  (repeat' split) <;> exact ⟨And.right ‹_›, And.left ‹_›⟩
theorem inR_mem {l : List Int} {n : Int} (h : inR l n) {x : Int} (hx : x ∈ l) : 0 ≤ x ∧ x < n := by
  obtain ⟨i, hi, rfl⟩ := List.mem_iff_getElem.1 hx
  have := h i hi
  rwa [getN hi] at this
theorem repl_get (n j : Nat) : (List.replicate n (0 : Int)).getD j 0 = 0 := by
  rw [List.getD_eq_getElem?_getD]
  by_cases h : j < n
  · rw [List.getElem?_replicate_of_lt h]; rfl
  · rw [List.getElem?_eq_none (by simp; omega)]; rfl
theorem repl_of {l : List Int} {n : Nat} (h1 : l.length = n) (h2 : ∀ j, j < l.length → l.getD j 0 = 0) : List.replicate n 0 = l := by
  symm
  rw [List.eq_replicate_iff]
  refine ⟨h1, fun b hb => ?_⟩
  obtain ⟨i, hi, rfl⟩ := List.mem_iff_getElem.1 hb
  have := h2 i hi
  rwa [getN hi] at this
theorem shp_of {l : List Int} : shpB 1 l = true ↔ shp l := by
  have := shpB_eq l 1
  unfold shp
  rw [show ((1 : Nat) : Int) = 1 from rfl] at this
  rw [this, decide_eq_true_iff]
theorem ini_mem {p : Pro} {q : Prp} {s : Siz} {c : Cfg} (hv : propE p q = 0) (hz : sizeE p s = 0) : c ∈ iniL p s (iniF p s) (prodK (chF p q s) (modN p s).toNat) ↔ isI p q s c := by
  have hsz := sizeE_ok hz
  have hm0 : 0 ≤ modN p s := by unfold modN; split <;> omega
  have hw0 : 0 ≤ whL p := by unfold whL; split <;> omega
  simp only [iniL, List.mem_flatMap, List.mem_map]
  constructor
  · rintro ⟨sh, hsh, st, hst, rfl⟩
    obtain ⟨g1, g2⟩ := (prod_mem _ _ _).1 hst
    refine ⟨⟨by show (st.length : Int) = _; omega, fun j hj => ?_, rfl, by simp [cfgI], fun j hj => ?_, by simp [cfgI], fun j hj => ?_, Int.le_refl _, .inl (show (0 : Int) < 1 by decide), fun ht => ?_, fun ht => ?_⟩, rfl, fun j hj => ⟨repl_get _ _, repl_get _ _⟩, fun i hi => g2 i (by rw [← g1]; exact hi)⟩
    · have hj' : j < st.length := hj
      exact inR_mem (chF_ok hv s j).2 (g2 j (by omega))
    · show 0 ≤ (List.replicate _ (0 : Int)).getD j 0 ∧ (List.replicate _ (0 : Int)).getD j 0 < _
      rw [repl_get]; omega
    · show 0 ≤ (List.replicate _ (0 : Int)).getD j 0 ∧ (List.replicate _ (0 : Int)).getD j 0 < _
      rw [repl_get]; omega
    · unfold iniF at hsh
      rw [if_pos ht] at hsh
      obtain ⟨e1, e2⟩ := shpEl (by omega) hsh
      exact ⟨by show (sh.length : Int) = _; omega, shp_of.1 e1⟩
    · unfold iniF at hsh
      rw [if_neg ht, List.mem_singleton] at hsh
      show sh.length = 0
      rw [hsh]; rfl
  · rintro ⟨hvc, hval, hzero, hst⟩
    have hlen := hvc.len
    refine ⟨c.shape, ?_, c.states, (prod_mem _ _ _).2 ⟨by omega, fun i hi => hst i (by omega)⟩, ?_⟩
    · unfold iniF
      by_cases ht : p.topology = 4
      · rw [if_pos ht]
        obtain ⟨e1, e2⟩ := hvc.tre ht
        have := shpMem (l := c.shape) (by omega) (by omega)
        rw [shp_of.2 e2] at this
        have := of_decide_eq_true this.symm
        rwa [show c.shape.length = s.n.toNat by omega] at this
      · rw [if_neg ht, List.mem_singleton]
        exact List.length_eq_zero_iff.1 (hvc.non ht)
    · have hsf := hvc.snl.trans hvc.fal.symm
      have e1 := repl_of hvc.snl fun j hj => (hzero j hj).1
      have e2 := repl_of hvc.fal fun j hj => (hzero j (by omega)).2
      have e3 := hvc.cor
      obtain ⟨c1, c2, c3, c4, c5, c6⟩ := c
      simp only at e1 e2 e3 hval
      unfold cfgI
      rw [Cfg.mk.injEq]
      exact ⟨rfl, rfl, e3.symm, e1, e2, hval.symm⟩
theorem cmpC_eq {a b : Cfg} (h : cmpC a b = 0) : a = b := by
  have hz := orL_zero h
  have e1 := cmpL_eq (hz (cmpL a.shape b.shape) (by simp))
  have e2 := cmpL_eq (hz (cmpL a.states b.states) (by simp))
  have e3 := cmpL_eq (hz (cmpL a.sent b.sent) (by simp))
  have e4 := cmpL_eq (hz (cmpL a.faulty b.faulty) (by simp))
  have e5 := hz (cmpZ a.correct b.correct) (by simp)
  have e6 := hz (cmpZ a.value b.value) (by simp)
  have e5' : a.correct = b.correct := by unfold cmpZ at e5; (repeat' split at e5) <;> omega
  have e6' : a.value = b.value := by unfold cmpZ at e6; (repeat' split at e6) <;> omega
  obtain ⟨a1, a2, a3, a4, a5, a6⟩ := a
  obtain ⟨b1, b2, b3, b4, b5, b6⟩ := b
  simp only at e1 e2 e3 e4 e5' e6'
  rw [e1, e2, e3, e4, e5', e6']
theorem forms_asc {p : Pro} {s : Siz} (hz : sizeE p s = 0) : Asc (iniF p s) := by
  unfold iniF
  by_cases ht : p.topology = 4
  · rw [if_pos ht]
    obtain ⟨m, hm, hsn⟩ := tree_odd hz ht
    rw [hsn, Int.toNat_natCast]
    match m, hm with
    | 0, _ => exact List.pairwise_singleton _ _
    | 1, _ => exact (shpT_asc 1 (by decide)).1
    | 2, _ => exact (shpT_asc 2 (by decide)).1
    | 3, _ => exact (shpT_asc 3 (by decide)).1
  · rw [if_neg ht]; exact List.pairwise_singleton _ _
theorem ini_asc {p : Pro} {q : Prp} {s : Siz} (hv : propE p q = 0) (hz : sizeE p s = 0) : (iniL p s (iniF p s) (prodK (chF p q s) (modN p s).toNat)).Pairwise fun a b => cmpC a b < 0 := by
  have hA := forms_asc hz
  have hB := prod_asc (fun k => (chF_ok hv s k).1) (modN p s).toNat
  unfold Asc at hA hB
  unfold iniL
  rw [List.pairwise_flatMap]
  constructor
  · intro sh _
    rw [List.pairwise_map]
    refine hB.imp fun hab => ?_
    unfold cmpC cfgI
    simp only [orL, cmpL_self]
    rw [if_neg (by simp), if_pos (by omega)]
    exact hab
  · refine hA.imp ?_
    intro a b hab x hx y hy
    simp only [List.mem_map] at hx hy
    obtain ⟨x, _, rfl⟩ := hx
    obtain ⟨y, _, rfl⟩ := hy
    unfold cmpC cfgI
    simp only [orL]
    rw [if_pos (by omega)]
    exact hab
end Go.Proofs.YtgbicnldbhfhiaaGreatDoor
