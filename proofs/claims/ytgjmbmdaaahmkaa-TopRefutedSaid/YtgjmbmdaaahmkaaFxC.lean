
/-
  Contract: the row of a derivation, by the program.
-/
import Derived.Test.YtgjmbmdaaahmkaaFxB
set_option linter.unusedVariables false
set_option linter.unusedSimpArgs false
namespace Go.Proofs.Ytgjmbmdaaahmkaa
set_option maxRecDepth 100000
set_option maxHeartbeats 32000000

/-- numbers of which the first j are replaced -/
def mixT (n : Nat) (c : List Int) (f : Nat → Int) (j : Nat) : List Int := (List.range n).map fun i => if i < j then f i else c.getD i 0
theorem mixT_len (n : Nat) (c : List Int) (f : Nat → Int) (j : Nat) : (mixT n c f j).length = n := by simp [mixT]
theorem mixT_zero {n : Nat} {c : List Int} (f : Nat → Int) (h : c.length = n) : mixT n c f 0 = c := by
  apply List.ext_getElem
  · simp [mixT, h]
  · intro i h1 h2
    simp [mixT, gD, gL h2]
theorem mixT_get {n : Nat} {c : List Int} {f : Nat → Int} {i j : Nat} (h : i < n) (hj : ¬ i < j) : (mixT n c f j).getD i 0 = c.getD i 0 := by
  rw [getD_elem 0 (by rw [mixT_len]; exact h)]
  simp only [mixT, List.getElem_map, List.getElem_range]
  rw [if_neg hj]
theorem mixT_up {n : Nat} {c : List Int} {f : Nat → Int} {j : Nat} (h : j < n) : (mixT n c f j).set j (f j) = mixT n c f (j + 1) := by
  apply List.ext_getElem
  · simp [mixT]
  · intro i h1 h2
    rw [List.getElem_set]
    simp only [mixT, List.getElem_map, List.getElem_range]
    by_cases e : j = i
    · subst e; rw [if_pos rfl, if_pos (by omega)]
    · rw [if_neg e]
      by_cases h3 : i < j
      · rw [if_pos h3, if_pos (by omega)]
      · rw [if_neg h3, if_neg (by omega)]
theorem mixT_all (n : Nat) (c : List Int) (f : Nat → Int) : mixT n c f n = (List.range n).map f := by
  apply List.ext_getElem
  · simp [mixT]
  · intro i h1 h2
    simp only [mixT, List.getElem_map, List.getElem_range]
    rw [if_pos (by simpa [mixT] using h1)]
theorem tdiv_b (a d : Int) {m : Int} (h : -m ≤ a ∧ a ≤ m) : -m ≤ a.tdiv d ∧ a.tdiv d ≤ m := by
  have := Int.natAbs_tdiv_le_natAbs a d
  omega
theorem map_range {c : List Int} {n : Nat} (f : Int → Int) (h : c.length = n) : (List.range n).map (fun i => f (c.getD i 0)) = c.map f := by
  apply List.ext_getElem
  · simp [h]
  · intro i h1 h2
    have h3 : i < c.length := by simpa using h2
    simp [gD, gL h3]

/-- a derivation that memory holds -/
def okD (d : Der) : Prop := d.src.length ≤ 140737488355328 ∧ d.mult.length ≤ 140737488355328
def chkL (n : Nat) (nodes : List Nod) (rows : List Row) : List (Nat × Blk) := [(7001, .box 47 [.int .i64 n, .sl nod0 encNo nodes, .row 7002 rows.length 2]), (7002, .row 42 row0 encRw rows)]
def chkS (n : Nat) (nodes : List Nod) (rows : List Row) (c : List Int) (k : Int) : List (Nat × Blk) :=
  [(7001, .box 47 [.int .i64 n, .sl nod0 encNo nodes, .row 7002 rows.length 2]), (7002, .row 42 row0 encRw rows), (4, .box 42 [.nilsl, .int .i64 0]), (6, .box 42 [.row 47 n 1, .int .i64 k]), (47, .row 3 0 encI c)]
def derA (n : Nat) (rows : List Row) (d : Der) (u : AV) : Prop := (dvB n rows d ∧ u = .tup [.agg (encRw (dvR n rows d)), .bool true]) ∨ (¬ dvB n rows d ∧ ∃ r, u = .tup [.agg (encRw r), .bool false])
def derU (n : Nat) (rows : List Row) (d : Der) (u : AV) : Prop := derA n rows d u ∨ (¬ dvB n rows d ∧ u = .tup [.agg [.nilsl, .int .i64 0], .bool false])
theorem deriveF (n : Nat) (nodes : List Nod) (rows : List Row) (d : Der) (hn : n ≤ 96) (hr : rdyR n rows) (hl : rows.length ≤ 10000000) (hd : okD d) :
    Spec Try.prog 20 [.ptr 7001 0, .agg (encDe d)] (Mem.ofL (chkL n nodes rows)) (fun u M => derA n rows d u ∧ M = Mem.ofL (chkL n nodes rows)) := by
  have hd1 := hd.1
  have hd2 := hd.2
  refine Spec.renorm 400 (R := fun u M => derU n rows d u ∧ memR (idL (chkL n nodes rows)) 400 M (chkL n nodes rows)) ?_ ?_
  case refine_2 =>
    rintro u M' ⟨hu | ⟨hb, rfl⟩, hM⟩
    · rcases hu with ⟨hb, rfl⟩ | ⟨hb, r, rfl⟩
      · exact ⟨_, _, .tup [.agg (encRw (dvR n rows d)), .bool true], rfl, hM, ⟨⟨rfl, rfl, trivial⟩, rfl, trivial⟩, .inl ⟨hb, rfl⟩, rfl⟩
      · exact ⟨_, _, .tup [.agg (encRw r), .bool false], rfl, hM, ⟨⟨rfl, rfl, trivial⟩, rfl, trivial⟩, .inr ⟨hb, r, rfl⟩, rfl⟩
    · exact ⟨_, _, .tup [.agg (encRw row0), .bool false], rfl, hM, ⟨⟨rfl, rfl, trivial⟩, rfl, trivial⟩, .inr ⟨hb, row0, rfl⟩, rfl⟩
  refine Spec.introL tt_ok mx_ok (chkL n nodes rows) Try.func20 rfl (by decide) ?_
  conv => whnf
  refine boxP rfl ?_
  conv => whnf
  have hno : ∀ {M : Mem}, ¬ dvB n rows d → memR (idL (chkL n nodes rows)) 400 M (chkL n nodes rows) → derU n rows d (.tup [.agg [.nilsl, .int .i64 0], .bool false]) ∧ memR (idL (chkL n nodes rows)) 400 M (chkL n nodes rows) := fun h h' => ⟨.inr ⟨h, rfl⟩, h'⟩
  refine cmpI (fun h1 => ?_) (fun h1 => ?_) <;> conv => whnf
  · exact hno (fun h => h1 (by have := h.1.1; omega)) (auto_)
  refine cmpI (fun h2 => ?_) (fun h2 => ?_) <;> conv => whnf
  · exact hno (fun h => by have := h.1.2.1; omega) (auto_)
  refine cmpI (fun h3 => ?_) (fun h3 => ?_) <;> conv => whnf
  · exact hno (fun h => by have := h.1.2.1; omega) (auto_)
  refine cmpI (fun h4 => ?_) (fun h4 => ?_) <;> conv => whnf
  · exact hno (fun h => by have := h.1.2.2; omega) (auto_)
  refine cmpI (fun h5 => ?_) (fun h5 => ?_) <;> conv => whnf
  · exact hno (fun h => by have := h.1.2.2; omega) (auto_)
  have hed : hedB d := ⟨by omega, by omega, by omega⟩
  refine mkI 0 encI 0 rfl (by dsimp only; omega) ?_
  rw [Int.toNat_natCast]
  conv => whnf
  refine WPc.loopF tt_ok mx_ok (fun k : Nat => k ≤ d.src.length ∧ ∀ i, i < k → trmB n rows.length d i) (fun k => [(52, .int .i64 (k : Int))]) (fun k => chkS n nodes rows (dvC n rows d k) (dvK rows d k)) (fun k => d.src.length - k) 0 ⟨Nat.zero_le _, fun j hj => absurd hj (Nat.not_lt_zero _)⟩ ?_; conv => whnf
  refine ⟨(Sub.id_ 400 rfl auto_ auto_), ?_⟩
  rintro k ⟨hk, ha⟩
  have bC := dvC_b hr k ha
  have bK := dvK_b hr k ha
  have lC := dvC_len n rows d k
  conv => whnf
  refine cmpI (fun g1 => ?_) (fun g1 => ?_) <;> conv => whnf
  · refine needI (by omega) ?_
    rw [Int.toNat_natCast]
    conv => whnf
    refine needI (by omega) ?_
    rw [Int.toNat_natCast]
    conv => whnf
    refine cmpI (fun g2 => ?_) (fun g2 => ?_) <;> conv => whnf
    · exact hno (fun h => by have := h.2.1 k (by omega); unfold trmB at this; omega) (auto_)
    refine cmpI (fun g3 => ?_) (fun g3 => ?_) <;> conv => whnf
    · exact hno (fun h => by have := h.2.1 k (by omega); unfold trmB at this; omega) (auto_)
    refine cmpI (fun g4 => ?_) (fun g4 => ?_) <;> conv => whnf
    · exact hno (fun h => by have := h.2.1 k (by omega); unfold trmB at this; omega) (auto_)
    refine arI trivial (by omega) ?_
    conv => whnf
    refine cmpI (fun g5 => ?_) (fun g5 => ?_) <;> conv => whnf
    · exact hno (fun h => by have := h.2.1 k (by omega); unfold trmB at this; omega) (auto_)
    have ht : trmB n rows.length d k := ⟨by omega, by omega⟩
    have ha' : ∀ i, i < k + 1 → trmB n rows.length d i := fun i hi => by
      by_cases e : i = k
      · subst e; exact ht
      · exact ha i (by omega)
    have bm : 1 ≤ d.mult.getD k 0 ∧ d.mult.getD k 0 ≤ 65536 := ht.2
    by_cases g6 : d.src.getD k 0 < 0
    · refine cmpT g6 ?_
      conv => whnf
      have bi := bC (-1 - d.src.getD k 0).toNat
      have h64 : (k : Int) < 64 := by have := hed.2.1; omega
      refine arI trivial (by omega) ?_
      conv => whnf
      refine needI (by omega) ?_
      conv => whnf
      refine arI trivial (by omega) ?_
      conv => whnf
      refine needI (by omega) ?_
      conv => whnf
      refine rowSetI _ rfl ?_
      conv => whnf
      repeat' ((first|refine nI ?_|refine aI ?_|refine arU trivial (by omega) ?_|refine arB trivial (by omega) ?_|refine dI ?_|refine dR ?_|refine dP ?_|refine boxP rfl ?_|refine pI _ rfl ?_|refine rowSetI _ rfl ?_|refine tI ?_|refine fI ?_|refine cmpI (fun _ => ?_) (fun _ => ?_)) <;> conv => whnf)
      refine ⟨k + 1, ?_, ⟨by omega, ha'⟩, by dsimp only; omega⟩
      dsimp only
      rw [dvC, if_pos g6, dvK, if_pos g6]
      exact (Sub.id_ 400 rfl auto_ auto_)
    · refine cmpF g6 ?_
      conv => whnf
      refine needI (by omega) ?_
      conv => whnf
      have hw := hr (d.src.getD k 0).toNat (by omega)
      have h64 : (k : Int) < 64 := by have := hed.2.1; omega
      refine WPc.loopF tt_ok mx_ok (fun j : Nat => j ≤ n) (fun j => [(108, .int .i64 (j : Int))]) (fun j => (10, .box 42 (encRw (rows.getD (d.src.getD k 0).toNat row0))) :: chkS n nodes rows (mixT n (dvC n rows d k) (fun i => (dvC n rows d k).getD i 0 + d.mult.getD k 0 * (rows.getD (d.src.getD k 0).toNat row0).coef.getD i 0) j) (dvK rows d k)) (fun j => n - j) 0 (Nat.zero_le _) ?_; conv => whnf
      refine ⟨?_, ?_⟩
      · show Sub _ _ _ _ _
        rw [mixT_zero _ lC]
        exact (Sub.id_ 400 rfl auto_ auto_)
      rintro j hj
      conv => whnf
      refine cmpI (fun g7 => ?_) (fun g7 => ?_) <;> conv => whnf
      · have hjn : j < n := by omega
        have lM := mixT_len n (dvC n rows d k) (fun i => (dvC n rows d k).getD i 0 + d.mult.getD k 0 * (rows.getD (d.src.getD k 0).toNat row0).coef.getD i 0) j
        have bj := bC j
        have cj : numB ((rows.getD (d.src.getD k 0).toNat row0).coef.getD j 0) := hw.2.1 j (by omega)
        have mj := mul_52 cj bm
        first | refine drawI (by decide +kernel) ?_ | refine drawO (by decide +kernel) ?_
        conv => whnf
        refine needI (by omega) ?_
        rw [Int.toNat_natCast]
        conv => whnf
        rw [mixT_get hjn (Nat.lt_irrefl _)]
        refine needI (by omega) ?_
        rw [Int.toNat_natCast]
        conv => whnf
        refine arI trivial (by omega) ?_
        conv => whnf
        refine arI trivial (by omega) ?_
        conv => whnf
        refine needI (by omega) ?_
        conv => whnf
        refine rowSetI _ rfl ?_
        conv => whnf
        repeat' ((first|refine nI ?_|refine aI ?_|refine arU trivial (by omega) ?_|refine arB trivial (by omega) ?_|refine dI ?_|refine dR ?_|refine dP ?_|refine boxP rfl ?_|refine pI _ rfl ?_|refine rowSetI _ rfl ?_|refine tI ?_|refine fI ?_|refine cmpI (fun _ => ?_) (fun _ => ?_)) <;> conv => whnf)
        refine ⟨j + 1, ?_, by omega, by dsimp only; omega⟩
        dsimp only
        rw [← mixT_up hjn]
        exact (Sub.id_ 400 rfl auto_ auto_)
      · obtain rfl : j = n := by omega
        have cK := mul_52 hw.2.2 bm
        refine arI trivial (by omega) ?_
        conv => whnf
        refine arI trivial (by omega) ?_
        conv => whnf
        repeat' ((first|refine nI ?_|refine aI ?_|refine arU trivial (by omega) ?_|refine arB trivial (by omega) ?_|refine dI ?_|refine dR ?_|refine dP ?_|refine boxP rfl ?_|refine pI _ rfl ?_|refine rowSetI _ rfl ?_|refine tI ?_|refine fI ?_|refine cmpI (fun _ => ?_) (fun _ => ?_)) <;> conv => whnf)
        refine ⟨k + 1, ?_, ⟨by omega, ha'⟩, by dsimp only; omega⟩
        dsimp only
        rw [dvC, if_neg g6, dvK, if_neg g6, ← mixT_all j (dvC j rows d k)]
        exact (Sub.id_ 400 rfl auto_ auto_)
  · obtain rfl : k = d.src.length := by omega
    have h64 : (d.src.length : Int) ≤ 64 := by have := hed.2.1; omega
    have hdv : 1 ≤ d.div ∧ d.div ≤ 68719476736 := hed.2.2
    refine WPc.loopF tt_ok mx_ok (fun j : Nat => j ≤ n ∧ ∀ i, i < j → ((dvC n rows d d.src.length).getD i 0).tmod d.div = 0) (fun j => [(138, .int .i64 (j : Int))]) (fun j => chkS n nodes rows (mixT n (dvC n rows d d.src.length) (fun i => ((dvC n rows d d.src.length).getD i 0).tdiv d.div) j) (dvK rows d d.src.length)) (fun j => n - j) 0 ⟨Nat.zero_le _, fun j hj => absurd hj (Nat.not_lt_zero _)⟩ ?_; conv => whnf
    refine ⟨?_, ?_⟩
    · show Sub _ _ _ _ _
      rw [mixT_zero _ lC]
      exact (Sub.id_ 400 rfl auto_ auto_)
    rintro j ⟨hj, hm⟩
    have lM := mixT_len n (dvC n rows d d.src.length) (fun i => ((dvC n rows d d.src.length).getD i 0).tdiv d.div) j
    conv => whnf
    refine cmpI (fun g7 => ?_) (fun g7 => ?_) <;> conv => whnf
    · have hjn : j < n := by omega
      have bj := bC j
      refine drawI (by decide +kernel) ?_
      conv => whnf
      refine needI (by omega) ?_
      rw [Int.toNat_natCast]
      conv => whnf
      rw [mixT_get hjn (Nat.lt_irrefl _)]
      refine needI (by omega) ?_
      conv => whnf
      refine cmpI (fun g8 => ?_) (fun g8 => ?_) <;> conv => whnf
      · exact hno (fun h => g8 (h.2.2.1 j hjn)) (auto_)
      have qj := tdiv_b ((dvC n rows d d.src.length).getD j 0) d.div (m := 4503599627370496 * (d.src.length : Int)) (by omega)
      first | refine drawI (by decide +kernel) ?_ | refine drawO (by decide +kernel) ?_
      conv => whnf
      refine needI (by omega) ?_
      rw [Int.toNat_natCast]
      conv => whnf
      rw [mixT_get hjn (Nat.lt_irrefl _)]
      refine arI (by omega) (by omega) ?_
      conv => whnf
      refine needI (by omega) ?_
      conv => whnf
      refine rowSetI _ rfl ?_
      conv => whnf
      repeat' ((first|refine nI ?_|refine aI ?_|refine arU trivial (by omega) ?_|refine arB trivial (by omega) ?_|refine dI ?_|refine dR ?_|refine dP ?_|refine boxP rfl ?_|refine pI _ rfl ?_|refine rowSetI _ rfl ?_|refine tI ?_|refine fI ?_|refine cmpI (fun _ => ?_) (fun _ => ?_)) <;> conv => whnf)
      refine ⟨j + 1, ?_, ⟨by omega, fun i hi => ?_⟩, by dsimp only; omega⟩
      · dsimp only
        rw [← mixT_up hjn]
        exact (Sub.id_ 400 rfl auto_ auto_)
      · by_cases e : i = j
        · subst e; exact Classical.not_not.1 g8
        · exact hm i (by omega)
    · obtain rfl : j = n := by omega
      have bK' := bK
      refine Spec.of_pure (n := 5) (floorF (dvK rows d d.src.length) d.div (by omega) hdv.1) rfl ?_
      rintro _ rfl
      conv => whnf
      have hR : (⟨mixT j (dvC j rows d d.src.length) (fun i => ((dvC j rows d d.src.length).getD i 0).tdiv d.div) j, flr (dvK rows d d.src.length) d.div⟩ : Row) = dvR j rows d := by
        rw [mixT_all, map_range (fun a => a.tdiv d.div) lC]
        rfl
      have fin : ∀ {M : Mem}, memR (idL (chkL j nodes rows)) 400 M (chkL j nodes rows) → derU j rows d (.tup [.agg (encRw ⟨mixT j (dvC j rows d d.src.length) (fun i => ((dvC j rows d d.src.length).getD i 0).tdiv d.div) j, flr (dvK rows d d.src.length) d.div⟩), .bool (decide (smlB ⟨mixT j (dvC j rows d d.src.length) (fun i => ((dvC j rows d d.src.length).getD i 0).tdiv d.div) j, flr (dvK rows d d.src.length) d.div⟩))]) ∧ memR (idL (chkL j nodes rows)) 400 M (chkL j nodes rows) := by
        intro M hM
        refine ⟨.inl ?_, hM⟩
        rw [hR]
        by_cases hs : smlB (dvR j rows d)
        · rw [decide_eq_true hs]
          exact .inl ⟨⟨hed, ha, hm, hs⟩, rfl⟩
        · rw [decide_eq_false hs]
          exact .inr ⟨fun h => hs h.2.2.2, _, rfl⟩
      refine drawE ?_
      conv => whnf
      repeat' first
        | exact True.intro
        | exact fin (auto_)
        | (refine And.intro ?_ ?_ <;> conv => whnf)
        | ((refine Spec.borrow (n := 5) (smlF ⟨mixT j (dvC j rows d d.src.length) (fun i => ((dvC j rows d d.src.length).getD i 0).tdiv d.div) j, flr (dvK rows d d.src.length) d.div⟩ (by dsimp only; omega)) rfl (by rintro _ rfl; rfl) ?_; rintro _ rfl; conv => whnf))
end Go.Proofs.Ytgjmbmdaaahmkaa
