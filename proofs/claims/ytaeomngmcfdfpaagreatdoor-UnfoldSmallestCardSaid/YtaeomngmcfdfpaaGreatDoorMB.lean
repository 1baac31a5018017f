import Derived.Test.YtaeomngmcfdfpaaGreatDoorM8
import Derived.Test.YtaeomngmcfdfpaaGreatDoorM9
set_option linter.unusedVariables false
set_option linter.unusedSimpArgs false
namespace Go.Proofs.YtaeomngmcfdfpaaGreatDoor
set_option maxRecDepth 100000
set_option maxHeartbeats 16000000
theorem cmpL_same : ∀ (h a b : List Int), cmpL (h ++ a) (h ++ b) = cmpL a b
 |[], _, _ => rfl
 |x :: h, a, b => by
  simp only [List.cons_append, cmpL]
  rw [if_neg (by omega), if_neg (by omega)]
  exact cmpL_same h a b
theorem cmpL_lt : ∀ (h h' a b : List Int), h.length = h'.length → cmpL h h' < 0 → cmpL (h ++ a) (h' ++ b) < 0
 |[], [], a, b, _, h => by simp [cmpL] at h
 |[], _ :: _, _, _, e, _ => by simp at e
 |_ :: _, [], _, _, e, _ => by simp at e
 |x :: h, y :: h', a, b, e, hh => by
  simp only [List.cons_append, cmpL] at hh ⊢
  by_cases h1 : x < y
  ·rw [if_pos h1]; decide
  ·rw [if_neg h1] at hh ⊢
   by_cases h2 : y < x
   ·rw [if_pos h2] at hh; omega
   ·rw [if_neg h2] at hh ⊢
    exact cmpL_lt h h' a b (by simpa using e) hh
theorem incr_pw {l : List Int} (h : incr l) : l.Pairwise (· < ·) := by
 rw [List.pairwise_iff_getElem]
 intro i j hi hj hij
 have := incr_lt h j i hij hj
 rwa [getN hi, getN hj] at this
theorem ext_asc {out : List (List Int)} {c : List Int} {n : Nat} (ho : Asc out) (hn : ∀ w ∈ out, w.length = n) (hc : incr c) : Asc (extL out c) := by
 unfold Asc extL at *
 rw [List.pairwise_flatMap]
 constructor
 ·intro h _
  rw [List.pairwise_map]
  refine (incr_pw hc).imp fun hxy => ?_
  rw [cmpL_same]
  simp only [cmpL]
  rw [if_pos hxy]
  decide
 ·refine (List.Pairwise.imp_of_mem ?_ ho)
  intro a b ha hb hab x hx y hy
  simp only [List.mem_map] at hx hy
  obtain ⟨x, _, rfl⟩ := hx
  obtain ⟨y, _, rfl⟩ := hy
  exact cmpL_lt _ _ _ _ ((hn a ha).trans (hn b hb).symm) hab
theorem prod_mem (ch : Nat → List Int) : ∀ (n : Nat) (w : List Int), w ∈ prodK ch n ↔ w.length = n ∧ ∀ i, i < n → w.getD i 0 ∈ ch i
 |0, w => by
  simp only [prodK, List.mem_singleton]
  constructor
  ·rintro rfl; exact ⟨rfl, fun i hi => by omega⟩
  ·rintro ⟨h, _⟩; exact List.length_eq_zero_iff.1 h
 |n + 1, w => by
  simp only [prodK, extL, List.mem_flatMap, List.mem_map]
  constructor
  ·rintro ⟨a, ha, x, hx, rfl⟩
   obtain ⟨h1, h2⟩ := (prod_mem ch n a).1 ha
   refine ⟨by simp [h1], fun i hi => ?_⟩
   rw [gD]
   by_cases e : i < n
   ·rw [List.getElem?_append_left (by omega), ← gD]
    exact h2 i e
   ·obtain rfl : i = n := by omega
    rw [List.getElem?_append_right (by omega), h1, Nat.sub_self]
    exact hx
  ·rintro ⟨h1, h2⟩
   refine ⟨w.take n, (prod_mem ch n _).2 ⟨by rw [List.length_take]; omega, fun i hi => ?_⟩, w.getD n 0, h2 n (by omega), ?_⟩
   ·have := h2 i (by omega)
    rw [gD] at this ⊢
    rwa [List.getElem?_take_of_lt hi]
   ·rw [getN (by omega), ← List.take_succ_eq_append_getElem (by omega), List.take_of_length_le (by omega)]
theorem chF_ok {p : Pro} {q : Prp} (hv : propE p q = 0) (s : Siz) (k : Nat) : incr (chF p q s k) ∧ inR (chF p q s k) p.states.length := by
 obtain ⟨_, h1, h2⟩ := validE_init (propE_valid hv)
 have h3 := (propE_start hv).1
 have a1 := setE_ok h1
 have a2 := setE_ok h2
 have a3 := setE_ok h3
 unfold chF stL
 (repeat' split) <;> exact ⟨And.right ‹_›, And.left ‹_›⟩
theorem inR_memE {l : List Int} {n : Int} (h : inR l n) {x : Int} (hx : x ∈ l) : 0 ≤ x ∧ x < n := by
 obtain ⟨i, hi, rfl⟩ := List.mem_iff_getElem.1 hx
 have := h i hi
 rwa [getN hi] at this
theorem repl_get (n j : Nat) : (List.replicate n (0 : Int)).getD j 0 = 0 := by
 rw [gD]
 by_cases h : j < n
 ·rw [List.getElem?_replicate_of_lt h]; rfl
 ·rw [List.getElem?_eq_none (by simp; omega)]; rfl
theorem repl_of {l : List Int} {n : Nat} (h1 : l.length = n) (h2 : ∀ j, j < l.length → l.getD j 0 = 0) : List.replicate n 0 = l := by
 symm
 rw [List.eq_replicate_iff]
 refine ⟨h1, fun b hb => ?_⟩
 obtain ⟨i, hi, rfl⟩ := List.mem_iff_getElem.1 hb
 have := h2 i hi
 rwa [getN hi] at this
theorem shp_of {l : List Int} : shpB 1 l = true ↔ shp l := by
 have := shpB_eq l 1
 unfold shp
 rw [show ((1 : Nat) : Int) = 1 from rfl] at this
 rw [this, decide_eq_true_iff]
theorem ini_mem {p : Pro} {q : Prp} {s : Siz} {c : Cfg} (hv : propE p q = 0) (hz : sizeE p s = 0) : c ∈ iniL p s (iniF p s) (prodK (chF p q s) (modN p s).toNat) ↔ isI p q s c := by
 have hsz := sizeE_ok hz
 have hm0 : 0 ≤ modN p s := by unfold modN; split <;> omega
 have hw0 : 0 ≤ whL p := by unfold whL; split <;> omega
 simp only [iniL, List.mem_flatMap, List.mem_map]
 constructor
 ·rintro ⟨sh, hsh, st, hst, rfl⟩
  obtain ⟨g1, g2⟩ := (prod_mem _ _ _).1 hst
  refine ⟨⟨by show (st.length : Int) = _; omega, fun j hj => ?_, rfl, by simp [cfgI], fun j hj => ?_, by simp [cfgI], fun j hj => ?_, Int.le_refl _, .inl (show (0 : Int) < 1 by decide), fun ht => ?_, fun ht => ?_⟩, rfl, fun j hj => ⟨repl_get _ _, repl_get _ _⟩, fun i hi => g2 i (by rw [← g1]; exact hi)⟩
  ·have hj' : j < st.length := hj
   exact inR_memE (chF_ok hv s j).2 (g2 j (by omega))
  ·show 0 ≤ (List.replicate _ (0 : Int)).getD j 0 ∧ (List.replicate _ (0 : Int)).getD j 0 < _
   rw [repl_get]; omega
  ·show 0 ≤ (List.replicate _ (0 : Int)).getD j 0 ∧ (List.replicate _ (0 : Int)).getD j 0 < _
   rw [repl_get]; omega
  ·unfold iniF at hsh
   rw [if_pos ht] at hsh
   obtain ⟨e1, e2⟩ := shpEl (by omega) hsh
   exact ⟨by show (sh.length : Int) = _; omega, shp_of.1 e1⟩
  ·unfold iniF at hsh
   rw [if_neg ht, List.mem_singleton] at hsh
   show sh.length = 0
   rw [hsh]; rfl
 ·rintro ⟨hvc, hval, hzero, hst⟩
  have hlen := hvc.len
  refine ⟨c.shape, ?_, c.states, (prod_mem _ _ _).2 ⟨by omega, fun i hi => hst i (by omega)⟩, ?_⟩
  ·unfold iniF
   by_cases ht : p.topology = 4
   ·rw [if_pos ht]
    obtain ⟨e1, e2⟩ := hvc.tre ht
    have := shpMem (l := c.shape) (by omega) (by omega)
    rw [shp_of.2 e2] at this
    have := of_decide_eq_true this.symm
    rwa [show c.shape.length = s.n.toNat by omega] at this
   ·rw [if_neg ht, List.mem_singleton]
    exact List.length_eq_zero_iff.1 (hvc.non ht)
  ·have hsf := hvc.snl.trans hvc.fal.symm
   have e1 := repl_of hvc.snl fun j hj => (hzero j hj).1
   have e2 := repl_of hvc.fal fun j hj => (hzero j (by omega)).2
   have e3 := hvc.cor
   obtain ⟨c1, c2, c3, c4, c5, c6⟩ := c
   simp only at e1 e2 e3 hval
   unfold cfgI
   rw [Cfg.mk.injEq]
   exact ⟨rfl, rfl, e3.symm, e1, e2, hval.symm⟩
noncomputable def iniE (p : Pro) (q : Prp) (s : Siz) : AV := if sizQ p q s ≠ 0 then rpA [] (sizQ p q s) else iniA p q s
theorem iniA_form (p : Pro) (q : Prp) (s : Siz) : ∃ l e, iniA p q s = rpA l e := by
 unfold iniA
 split
 ·exact ⟨_, _, rfl⟩
 ·exact ⟨_, _, rfl⟩
noncomputable def iniD (p : Pro) (q : Prp) (s : Siz) : List Cfg × Bool := if iniB (iniF p s).length (chF p q s) (modN p s).toNat then (iniL p s (iniF p s) (prodK (chF p q s) (modN p s).toNat), true) else ([], false)
def inU (d : List Cfg × Bool) : AV → Prop := fun u => u = .tup [.sl cfg0 encC d.1, .bool d.2] ∨ u = .tup [.nilsl, .bool false] ∧ d = ([], false)
theorem iniE_ok (p : Pro) (q : Prp) (s : Siz) (hp : ¬ bigP p) : ∃ l e, iniE p q s = rpA l e ∧ l.length ≤ 4000 ∧ ∀ d ∈ l, wideB d = false := by
 unfold iniE
 by_cases h0 : sizQ p q s ≠ 0
 ·rw [if_pos h0]; exact ⟨[], _, rfl, by simp, by simp⟩
 rw [if_neg h0]
 have hz := sizQ_ok (p := p) (q := q) (s := s) (by omega)
 unfold iniA
 by_cases hB : iniB (iniF p s).length (chF p q s) (modN p s).toNat
 ·rw [if_pos hB]
  refine ⟨_, _, rfl, ?_, fun d hd => ?_⟩
  ·have hF1 : 1 ≤ (iniF p s).length ∧ (iniF p s).length ≤ 5 := by
    unfold iniF
    by_cases hT : p.topology = 4
    ·rw [if_pos hT]
     obtain ⟨m, hm, hsn⟩ := tree_odd hz.2 hT
     have a1 := shpT_len1 m hm
     have a2 := (shpT_le (n := 2 * m + 1) (by omega)).1
     rw [hsn, tN]
     exact ⟨a1, a2⟩
    ·rw [if_neg hT]; exact ⟨Nat.le_refl _, by decide⟩
   rw [iniL_len]
   exact (prod_le hF1.1 hF1.2 hB _ (Nat.le_refl _)).2
  ·have hv := ((ini_mem hz.1 hz.2).1 hd).1
   have hsz := sizeE_ok hz.2
   have hle := bigP_le hp
   have hl := hv.len
   have h1 : modN p s ≤ 8 := by unfold modN; split <;> omega
   have h2 := hv.snl
   have h3 := hv.fal
   have h4 : d.shape.length ≤ 8 := by
    by_cases hT : p.topology = 4
    ·have := (hv.tre hT).1; omega
    ·have := hv.non hT; omega
   unfold wideB
   simp only [Bool.or_eq_false_iff, decide_eq_false_iff_not]
   omega
 ·rw [if_neg hB]; exact ⟨[], _, rfl, by simp, by simp⟩
end Go.Proofs.YtaeomngmcfdfpaaGreatDoor
