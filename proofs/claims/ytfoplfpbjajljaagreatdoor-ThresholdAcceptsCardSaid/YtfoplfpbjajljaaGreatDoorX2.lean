import Derived.Test.YtfoplfpbjajljaaGreatDoorX1
set_option linter.unusedVariables false
set_option linter.unusedSimpArgs false
namespace Go.Proofs.YtfoplfpbjajljaaGreatDoor
set_option maxRecDepth 100000
set_option maxHeartbeats 16000000
theorem floorF (a d : Int) (ha : -9223372036854775807 ≤ a ∧ a ≤ 9223372036854775807) (hd : 1 ≤ d) : PSpec Tryz.prog 160 [.int .i64 a, .int .i64 d] (fun u => u = .int .i64 (flr a d)) := by
 have hq : -9223372036854775807 ≤ a.tdiv d ∧ a.tdiv d ≤ 9223372036854775807 := by
  have h := Int.natAbs_tdiv_le_natAbs a d
  omega
 refine PSpec.intro tt_ok mx_ok Tryz.func160 rfl (by decide) ?_; (conv => whnf)
 refine arI (by omega) (by omega) ?_
 conv => whnf
 refine nI ?_
 conv => whnf
 refine cmpI ?_ ?_ <;> (intro h; conv => whnf)
 ·refine aI ?_
  conv => whnf
  exact ⟨avI (by unfold flr; rw [if_pos h]), rfl⟩
 ·exact ⟨avI (by unfold flr; rw [if_neg h]), rfl⟩
theorem ContradictoryF (r : Row) (hl : r.coef.length ≤ 140737488355328) : PSpec Tryz.prog 139 [.agg (encRw r)] (fun u => u = .bool (decide (conB r))) := by
 refine PSpec.intro tt_ok mx_ok Tryz.func139 rfl (by decide) ?_; (conv => whnf)
 refine boxP rfl ?_
 conv => whnf
 refine WPc.loopF tt_ok mx_ok (fun k : Nat => k ≤ r.coef.length ∧ ∀ j, j < k → r.coef.getD j 0 ≤ 0) (fun k => [(8, .int .i64 (k : Int))]) (fun _ => []) (fun k => r.coef.length - k) 0 ⟨Nat.zero_le _, fun j hj => absurd hj (Nat.not_lt_zero _)⟩ ?_; conv => whnf
 refine ⟨sI, ?_⟩
 rintro k ⟨hk, ha⟩
 conv => whnf
 refine cmpI ?_ ?_ <;> (intro h1; conv => whnf)
 ·refine nI ?_
  rw [tN]
  conv => whnf
  refine cmpI ?_ ?_ <;> (intro h2; conv => whnf)
  ·exact ⟨dec_f (fun h => by have := h.1 k (by omega); omega), rfl⟩
  ·repeat' ((first|refine nI ?_|refine aI ?_|refine arU trivial (by omega) ?_|refine arB trivial (by omega) ?_|refine dI ?_|refine dR ?_|refine dP ?_|refine boxP rfl ?_|refine pI _ rfl ?_|refine rowSetI _ rfl ?_|refine tI ?_|refine fI ?_|refine cmpI (fun _ => ?_) (fun _ => ?_)) <;> conv => whnf)
   refine ⟨k + 1, sI, ⟨by omega, fun j hj => ?_⟩, by dsimp only; omega⟩
   by_cases e : j = k
   ·subst e; omega
   ·exact ha j (by omega)
 ·obtain rfl : k = r.coef.length := by omega
  refine cmpI ?_ ?_ <;> (intro h2; conv => whnf)
  ·exact ⟨dec_t ⟨ha, h2⟩, rfl⟩
  ·exact ⟨dec_f (fun h => h2 h.2), rfl⟩
theorem signF (n : Nat) (v : Int) (hn : n ≤ 1000) (hv : 0 ≤ v ∧ v < n) : PSpec Tryz.prog 161 [.int .i64 n, .int .i64 v] (fun u => u = .agg (encRw ⟨(List.replicate n 0).set v.toNat 1, 0⟩)) := by
 refine PSpec.intro tt_ok mx_ok Tryz.func161 rfl (by decide) ?_; (conv => whnf)
 refine mkI 0 encI 0 rfl (by dsimp only; omega) ?_
 rw [tN]
 conv => whnf
 refine nI ?_
 conv => whnf
 refine rowSetI 1 rfl ?_
 conv => whnf
 exact ⟨rfl, rfl⟩
theorem atMostF (n : Nat) (v k : Int) (hn : n ≤ 1000) (hv : 0 ≤ v ∧ v < n) : PSpec Tryz.prog 141 [.int .i64 n, .int .i64 v, .int .i64 k] (fun u => u = .agg (encRw (splL n v k))) := by
 refine PSpec.intro tt_ok mx_ok Tryz.func141 rfl (by decide) ?_; (conv => whnf)
 refine mkI 0 encI 0 rfl (by dsimp only; omega) ?_
 rw [tN]
 conv => whnf
 refine nI ?_
 conv => whnf
 refine rowSetI (-1) rfl ?_
 conv => whnf
 exact ⟨rfl, rfl⟩
theorem atLeastF (n : Nat) (v k : Int) (hn : n ≤ 1000) (hv : 0 ≤ v ∧ v < n) (hk : -9223372036854775807 ≤ k ∧ k ≤ 9223372036854775807) : PSpec Tryz.prog 142 [.int .i64 n, .int .i64 v, .int .i64 k] (fun u => u = .agg (encRw (splR n v k))) := by
 refine PSpec.intro tt_ok mx_ok Tryz.func142 rfl (by decide) ?_; (conv => whnf)
 (refine oP (signF n v hn hv) ?_; conv => whnf)
 refine aI ?_
 conv => whnf
 refine ⟨?_, rfl⟩
 unfold splR encRw
 rw [Int.zero_sub]
 rfl
set_option maxHeartbeats 32000000
def mixT (n : Nat) (c : List Int) (f : Nat → Int) (j : Nat) : List Int := (List.range n).map fun i => if i < j then f i else c.getD i 0
theorem mixT_len (n : Nat) (c : List Int) (f : Nat → Int) (j : Nat) : (mixT n c f j).length = n := by simp [mixT]
theorem mixT_zero {n : Nat} {c : List Int} (f : Nat → Int) (h : c.length = n) : mixT n c f 0 = c := by
 apply List.ext_getElem
 ·simp [mixT, h]
 ·intro i h1 h2
  simp [mixT, gD, gL h2]
theorem mixT_get {n : Nat} {c : List Int} {f : Nat → Int} {i j : Nat} (h : i < n) (hj : ¬ i < j) : (mixT n c f j).getD i 0 = c.getD i 0 := by
 rw [getD_elem 0 (by rw [mixT_len]; exact h)]
 simp only [mixT, List.getElem_map, List.getElem_range]
 rw [if_neg hj]
theorem mixT_up {n : Nat} {c : List Int} {f : Nat → Int} {j : Nat} (h : j < n) : (mixT n c f j).set j (f j) = mixT n c f (j + 1) := by
 apply List.ext_getElem
 ·simp [mixT]
 ·intro i h1 h2
  rw [List.getElem_set]
  simp only [mixT, List.getElem_map, List.getElem_range]
  by_cases e : j = i
  ·subst e; rw [if_pos rfl, if_pos (by omega)]
  ·rw [if_neg e]
   by_cases h3 : i < j
   ·rw [if_pos h3, if_pos (by omega)]
   ·rw [if_neg h3, if_neg (by omega)]
theorem mixT_all (n : Nat) (c : List Int) (f : Nat → Int) : mixT n c f n = (List.range n).map f := by
 apply List.ext_getElem
 ·simp [mixT]
 ·intro i h1 h2
  simp only [mixT, List.getElem_map, List.getElem_range]
  rw [if_pos (by simpa [mixT] using h1)]
theorem tdiv_b (a d : Int) {m : Int} (h : -m ≤ a ∧ a ≤ m) : -m ≤ a.tdiv d ∧ a.tdiv d ≤ m := by
 have := Int.natAbs_tdiv_le_natAbs a d
 omega
theorem map_range {c : List Int} {n : Nat} (f : Int → Int) (h : c.length = n) : (List.range n).map (fun i => f (c.getD i 0)) = c.map f := by
 apply List.ext_getElem
 ·simp [h]
 ·intro i h1 h2
  have h3 : i < c.length := by simpa using h2
  simp [gD, gL h3]
def okD (d : Der) : Prop := d.src.length ≤ 140737488355328 ∧ d.mult.length ≤ 140737488355328
def chkL (n : Nat) (nodes : List Nod) (rows : List Row) : List (Nat × Blk) := [(7001, .box 161 [.int .i64 n, .sl nod0 encNo nodes, .row 7002 rows.length 2]), (7002, .row 102 row0 encRw rows)]
def chkS (n : Nat) (nodes : List Nod) (rows : List Row) (c : List Int) (k : Int) : List (Nat × Blk) :=
 [(7001, .box 161 [.int .i64 n, .sl nod0 encNo nodes, .row 7002 rows.length 2]), (7002, .row 102 row0 encRw rows), (4, .box 102 [.nilsl, .int .i64 0]), (6, .box 102 [.row 47 n 1, .int .i64 k]), (47, .row 3 0 encI c)]
def derA (n : Nat) (rows : List Row) (d : Der) (u : AV) : Prop := (dvB n rows d ∧ u = .tup [.agg (encRw (dvR n rows d)), .bool true]) ∨ (¬ dvB n rows d ∧ ∃ r, u = .tup [.agg (encRw r), .bool false])
def derU (n : Nat) (rows : List Row) (d : Der) (u : AV) : Prop := derA n rows d u ∨ (¬ dvB n rows d ∧ u = .tup [.agg [.nilsl, .int .i64 0], .bool false])
theorem deriveF (n : Nat) (nodes : List Nod) (rows : List Row) (d : Der) (hn : n ≤ 96) (hr : rdyR n rows) (hl : rows.length ≤ 10000000) (hd : okD d) :
  Spec Tryz.prog 138 [.ptr 7001 0, .agg (encDe d)] (Mem.ofL (chkL n nodes rows)) (fun u M => derA n rows d u ∧ M = Mem.ofL (chkL n nodes rows)) := by
 have hd1 := hd.1
 have hd2 := hd.2
 refine Spec.renorm 400 (R := fun u M => derU n rows d u ∧ memR (idL (chkL n nodes rows)) 400 M (chkL n nodes rows)) ?_ ?_
 case refine_2 =>
  rintro u M' ⟨hu | ⟨hb, rfl⟩, hM⟩
  ·rcases hu with ⟨hb, rfl⟩ | ⟨hb, r, rfl⟩
   ·exact ⟨_, _, .tup [.agg (encRw (dvR n rows d)), .bool true], rfl, hM, ⟨⟨rfl, rfl, trivial⟩, rfl, trivial⟩, .inl ⟨hb, rfl⟩, rfl⟩
   ·exact ⟨_, _, .tup [.agg (encRw r), .bool false], rfl, hM, ⟨⟨rfl, rfl, trivial⟩, rfl, trivial⟩, .inr ⟨hb, r, rfl⟩, rfl⟩
  ·exact ⟨_, _, .tup [.agg (encRw row0), .bool false], rfl, hM, ⟨⟨rfl, rfl, trivial⟩, rfl, trivial⟩, .inr ⟨hb, row0, rfl⟩, rfl⟩
 refine Spec.introL tt_ok mx_ok (chkL n nodes rows) Tryz.func138 rfl (by decide) ?_
 conv => whnf
 refine boxP rfl ?_
 conv => whnf
 have hno : ∀ {M : Mem}, ¬ dvB n rows d → memR (idL (chkL n nodes rows)) 400 M (chkL n nodes rows) → derU n rows d (.tup [.agg [.nilsl, .int .i64 0], .bool false]) ∧ memR (idL (chkL n nodes rows)) 400 M (chkL n nodes rows) := fun h h' => ⟨.inr ⟨h, rfl⟩, h'⟩
 refine cmpI ?_ ?_ <;> (intro h1; conv => whnf)
 ·exact hno (fun h => h1 (by have := h.1.1; omega)) (auto_)
 refine cmpI ?_ ?_ <;> (intro h2; conv => whnf)
 ·exact hno (fun h => by have := h.1.2.1; omega) (auto_)
 refine cmpI ?_ ?_ <;> (intro h3; conv => whnf)
 ·exact hno (fun h => by have := h.1.2.1; omega) (auto_)
 refine cmpI ?_ ?_ <;> (intro h4; conv => whnf)
 ·exact hno (fun h => by have := h.1.2.2; omega) (auto_)
 refine cmpI ?_ ?_ <;> (intro h5; conv => whnf)
 ·exact hno (fun h => by have := h.1.2.2; omega) (auto_)
 have hed : hedB d := ⟨by omega, by omega, by omega⟩
 refine mkI 0 encI 0 rfl (by dsimp only; omega) ?_
 rw [tN]
 conv => whnf
 refine WPc.loopF tt_ok mx_ok (fun k : Nat => k ≤ d.src.length ∧ ∀ i, i < k → trmB n rows.length d i) (fun k => [(52, .int .i64 (k : Int))]) (fun k => chkS n nodes rows (dvC n rows d k) (dvK rows d k)) (fun k => d.src.length - k) 0 ⟨Nat.zero_le _, fun j hj => absurd hj (Nat.not_lt_zero _)⟩ ?_; conv => whnf
 refine ⟨sI, ?_⟩
 rintro k ⟨hk, ha⟩
 have bC := dvC_b hr k ha
 have bK := dvK_b hr k ha
 have lC := dvC_len n rows d k
 conv => whnf
 refine cmpI ?_ ?_ <;> (intro g1; conv => whnf)
 ·refine nI ?_
  rw [tN]
  conv => whnf
  refine nI ?_
  rw [tN]
  conv => whnf
  refine cmpI ?_ ?_ <;> (intro g2; conv => whnf)
  ·exact hno (fun h => by have := h.2.1 k (by omega); unfold trmB at this; omega) (auto_)
  refine cmpI ?_ ?_ <;> (intro g3; conv => whnf)
  ·exact hno (fun h => by have := h.2.1 k (by omega); unfold trmB at this; omega) (auto_)
  refine cmpI ?_ ?_ <;> (intro g4; conv => whnf)
  ·exact hno (fun h => by have := h.2.1 k (by omega); unfold trmB at this; omega) (auto_)
  refine aI ?_
  conv => whnf
  refine cmpI ?_ ?_ <;> (intro g5; conv => whnf)
  ·exact hno (fun h => by have := h.2.1 k (by omega); unfold trmB at this; omega) (auto_)
  have ht : trmB n rows.length d k := ⟨by omega, by omega⟩
  have ha' : ∀ i, i < k + 1 → trmB n rows.length d i := fun i hi => by
   by_cases e : i = k
   ·subst e; exact ht
   ·exact ha i (by omega)
  have bm : 1 ≤ d.mult.getD k 0 ∧ d.mult.getD k 0 ≤ 65536 := ht.2
  by_cases g6 : d.src.getD k 0 < 0
  ·refine cmpT g6 ?_
   conv => whnf
   have bi := bC (-1 - d.src.getD k 0).toNat
   have h64 : (k : Int) < 64 := by have := hed.2.1; omega
   refine aI ?_
   conv => whnf
   refine nI ?_
   conv => whnf
   refine aI ?_
   conv => whnf
   refine nI ?_
   conv => whnf
   refine rowSetI _ rfl ?_
   conv => whnf
   repeat' ((first|refine nI ?_|refine aI ?_|refine arU trivial (by omega) ?_|refine arB trivial (by omega) ?_|refine dI ?_|refine dR ?_|refine dP ?_|refine boxP rfl ?_|refine pI _ rfl ?_|refine rowSetI _ rfl ?_|refine tI ?_|refine fI ?_|refine cmpI (fun _ => ?_) (fun _ => ?_)) <;> conv => whnf)
   refine ⟨k + 1, ?_, ⟨by omega, ha'⟩, by dsimp only; omega⟩
   dsimp only
   rw [dvC, if_pos g6, dvK, if_pos g6]
   exact sI
  ·refine cmpF g6 ?_
   conv => whnf
   refine nI ?_
   conv => whnf
   have hw := hr (d.src.getD k 0).toNat (by omega)
   have h64 : (k : Int) < 64 := by have := hed.2.1; omega
   refine WPc.loopF tt_ok mx_ok (fun j : Nat => j ≤ n) (fun j => [(108, .int .i64 (j : Int))]) (fun j => (10, .box 102 (encRw (rows.getD (d.src.getD k 0).toNat row0))) :: chkS n nodes rows (mixT n (dvC n rows d k) (fun i => (dvC n rows d k).getD i 0 + d.mult.getD k 0 * (rows.getD (d.src.getD k 0).toNat row0).coef.getD i 0) j) (dvK rows d k)) (fun j => n - j) 0 (Nat.zero_le _) ?_; conv => whnf
   refine ⟨?_, ?_⟩
   ·show Sub _ _ _ _ _
    rw [mixT_zero _ lC]
    exact sI
   rintro j hj
   conv => whnf
   refine cmpI ?_ ?_ <;> (intro g7; conv => whnf)
   ·have hjn : j < n := by omega
    have lM := mixT_len n (dvC n rows d k) (fun i => (dvC n rows d k).getD i 0 + d.mult.getD k 0 * (rows.getD (d.src.getD k 0).toNat row0).coef.getD i 0) j
    have bj := bC j
    have cj : numB ((rows.getD (d.src.getD k 0).toNat row0).coef.getD j 0) := hw.2.1 j (by omega)
    have mj := mul_52 cj bm
    first | refine dI ?_ | refine drawO (by decide +kernel) ?_
    conv => whnf
    refine nI ?_
    rw [tN]
    conv => whnf
    rw [mixT_get hjn (Nat.lt_irrefl _)]
    refine nI ?_
    rw [tN]
    conv => whnf
    refine aI ?_
    conv => whnf
    refine aI ?_
    conv => whnf
    refine nI ?_
    conv => whnf
    refine rowSetI _ rfl ?_
    conv => whnf
    repeat' ((first|refine nI ?_|refine aI ?_|refine arU trivial (by omega) ?_|refine arB trivial (by omega) ?_|refine dI ?_|refine dR ?_|refine dP ?_|refine boxP rfl ?_|refine pI _ rfl ?_|refine rowSetI _ rfl ?_|refine tI ?_|refine fI ?_|refine cmpI (fun _ => ?_) (fun _ => ?_)) <;> conv => whnf)
    refine ⟨j + 1, ?_, by omega, by dsimp only; omega⟩
    dsimp only
    rw [← mixT_up hjn]
    exact sI
   ·obtain rfl : j = n := by omega
    have cK := mul_52 hw.2.2 bm
    refine aI ?_
    conv => whnf
    refine aI ?_
    conv => whnf
    repeat' ((first|refine nI ?_|refine aI ?_|refine arU trivial (by omega) ?_|refine arB trivial (by omega) ?_|refine dI ?_|refine dR ?_|refine dP ?_|refine boxP rfl ?_|refine pI _ rfl ?_|refine rowSetI _ rfl ?_|refine tI ?_|refine fI ?_|refine cmpI (fun _ => ?_) (fun _ => ?_)) <;> conv => whnf)
    refine ⟨k + 1, ?_, ⟨by omega, ha'⟩, by dsimp only; omega⟩
    dsimp only
    rw [dvC, if_neg g6, dvK, if_neg g6, ← mixT_all j (dvC j rows d k)]
    exact sI
 ·obtain rfl : k = d.src.length := by omega
  have h64 : (d.src.length : Int) ≤ 64 := by have := hed.2.1; omega
  have hdv : 1 ≤ d.div ∧ d.div ≤ 68719476736 := hed.2.2
  refine WPc.loopF tt_ok mx_ok (fun j : Nat => j ≤ n ∧ ∀ i, i < j → ((dvC n rows d d.src.length).getD i 0).tmod d.div = 0) (fun j => [(138, .int .i64 (j : Int))]) (fun j => chkS n nodes rows (mixT n (dvC n rows d d.src.length) (fun i => ((dvC n rows d d.src.length).getD i 0).tdiv d.div) j) (dvK rows d d.src.length)) (fun j => n - j) 0 ⟨Nat.zero_le _, fun j hj => absurd hj (Nat.not_lt_zero _)⟩ ?_; conv => whnf
  refine ⟨?_, ?_⟩
  ·show Sub _ _ _ _ _
   rw [mixT_zero _ lC]
   exact sI
  rintro j ⟨hj, hm⟩
  have lM := mixT_len n (dvC n rows d d.src.length) (fun i => ((dvC n rows d d.src.length).getD i 0).tdiv d.div) j
  conv => whnf
  refine cmpI ?_ ?_ <;> (intro g7; conv => whnf)
  ·have hjn : j < n := by omega
   have bj := bC j
   refine dI ?_
   conv => whnf
   refine nI ?_
   rw [tN]
   conv => whnf
   rw [mixT_get hjn (Nat.lt_irrefl _)]
   refine nI ?_
   conv => whnf
   refine cmpI ?_ ?_ <;> (intro g8; conv => whnf)
   ·exact hno (fun h => g8 (h.2.2.1 j hjn)) (auto_)
   have qj := tdiv_b ((dvC n rows d d.src.length).getD j 0) d.div (m := 4503599627370496 * (d.src.length : Int)) (by omega)
   first | refine dI ?_ | refine drawO (by decide +kernel) ?_
   conv => whnf
   refine nI ?_
   rw [tN]
   conv => whnf
   rw [mixT_get hjn (Nat.lt_irrefl _)]
   refine arI (by omega) (by omega) ?_
   conv => whnf
   refine nI ?_
   conv => whnf
   refine rowSetI _ rfl ?_
   conv => whnf
   repeat' ((first|refine nI ?_|refine aI ?_|refine arU trivial (by omega) ?_|refine arB trivial (by omega) ?_|refine dI ?_|refine dR ?_|refine dP ?_|refine boxP rfl ?_|refine pI _ rfl ?_|refine rowSetI _ rfl ?_|refine tI ?_|refine fI ?_|refine cmpI (fun _ => ?_) (fun _ => ?_)) <;> conv => whnf)
   refine ⟨j + 1, ?_, ⟨by omega, fun i hi => ?_⟩, by dsimp only; omega⟩
   ·dsimp only
    rw [← mixT_up hjn]
    exact sI
   ·by_cases e : i = j
    ·subst e; exact Classical.not_not.1 g8
    ·exact hm i (by omega)
  ·obtain rfl : j = n := by omega
   have bK' := bK
   refine Spec.of_pure (n := 5) (floorF (dvK rows d d.src.length) d.div (by omega) hdv.1) rfl ?_
   rintro _ rfl
   conv => whnf
   have hR : (⟨mixT j (dvC j rows d d.src.length) (fun i => ((dvC j rows d d.src.length).getD i 0).tdiv d.div) j, flr (dvK rows d d.src.length) d.div⟩ : Row) = dvR j rows d := by
    rw [mixT_all, map_range (fun a => a.tdiv d.div) lC]
    rfl
   have fin : ∀ {M : Mem}, memR (idL (chkL j nodes rows)) 400 M (chkL j nodes rows) → derU j rows d (.tup [.agg (encRw ⟨mixT j (dvC j rows d d.src.length) (fun i => ((dvC j rows d d.src.length).getD i 0).tdiv d.div) j, flr (dvK rows d d.src.length) d.div⟩), .bool (decide (smlB ⟨mixT j (dvC j rows d d.src.length) (fun i => ((dvC j rows d d.src.length).getD i 0).tdiv d.div) j, flr (dvK rows d d.src.length) d.div⟩))]) ∧ memR (idL (chkL j nodes rows)) 400 M (chkL j nodes rows) := by
    intro M hM
    refine ⟨.inl ?_, hM⟩
    rw [hR]
    by_cases hs : smlB (dvR j rows d)
    ·rw [decide_eq_true hs]
     exact .inl ⟨⟨hed, ha, hm, hs⟩, rfl⟩
    ·rw [decide_eq_false hs]
     exact .inr ⟨fun h => hs h.2.2.2, _, rfl⟩
   refine drawE ?_
   conv => whnf
   repeat' first
    |exact True.intro
    |exact fin (auto_)
    |(refine And.intro ?_ ?_ <;> conv => whnf)
    |((refine Spec.borrow (n := 5) (smlF ⟨mixT j (dvC j rows d d.src.length) (fun i => ((dvC j rows d d.src.length).getD i 0).tdiv d.div) j, flr (dvK rows d d.src.length) d.div⟩ (by dsimp only; omega)) rfl (by rintro _ rfl; rfl) ?_; rintro _ rfl; conv => whnf))
def okN (nodes : List Nod) : Prop := nodes.length ≤ 140737488355328 ∧ ∀ i, i < nodes.length → (nodes.getD i nod0).lines.length ≤ 140737488355328 ∧ ∀ j, j < (nodes.getD i nod0).lines.length → okD ((nodes.getD i nod0).lines.getD j der0)
def prtL (nodes : List Nod) (k : Nat) : List Int := (List.range nodes.length).map fun i : Nat => parM nodes (i : Int) k
theorem prtL_len (nodes : List Nod) (k : Nat) : (prtL nodes k).length = nodes.length := by simp [prtL]
theorem prtL_get {nodes : List Nod} {k i : Nat} (h : i < nodes.length) : (prtL nodes k).getD i 0 = parM nodes i k := by
 rw [getD_elem 0 (by rw [prtL_len]; exact h)]; simp [prtL]
theorem prtL_zero (nodes : List Nod) : prtL nodes 0 = List.replicate nodes.length 0 := by
 apply List.ext_getElem
 ·simp [prtL]
 ·intro i h1 h2; simp [prtL, parM]
def bump (l : List Int) (c : Int) : List Int := l.set c.toNat (l.getD c.toNat 0 + 1)
theorem bump_len (l : List Int) (c : Int) : (bump l c).length = l.length := by simp [bump]
theorem bump_get {l : List Int} {c : Int} {i : Nat} (hi : i < l.length) (hc : 0 ≤ c) : (bump l c).getD i 0 = l.getD i 0 + (if c = (i : Int) then 1 else 0) := by
 unfold bump
 by_cases e : c.toNat = i
 ·subst e
  rw [gD, List.getElem?_set_self hi, if_pos (by omega)]
  rfl
 ·rw [gD, List.getElem?_set_ne e, ← gD, if_neg (by omega), Int.add_zero]
def pars (nodes : List Nod) (k : Nat) : Nat → List Int
 |0 => prtL nodes k
 |1 => bump (prtL nodes k) (nodes.getD k nod0).left
 |_ => bump (bump (prtL nodes k) (nodes.getD k nod0).left) (nodes.getD k nod0).right
theorem pars_len (nodes : List Nod) (k j : Nat) : (pars nodes k j).length = nodes.length := by
 unfold pars; split <;> simp [bump_len, prtL_len]
theorem pars_two {nodes : List Nod} {k : Nat} (hv : (nodes.getD k nod0).var ≠ -1) (hl : 0 ≤ (nodes.getD k nod0).left) (hr : 0 ≤ (nodes.getD k nod0).right) : pars nodes k 2 = prtL nodes (k + 1) := by
 apply List.ext_getElem
 ·rw [pars_len, prtL_len]
 ·intro i h1 h2
  have hi : i < nodes.length := by rw [pars_len] at h1; exact h1
  have e := bump_get (l := bump (prtL nodes k) (nodes.getD k nod0).left) (c := (nodes.getD k nod0).right) (i := i) (by rw [bump_len, prtL_len]; exact hi) hr
  rw [bump_get (by rw [prtL_len]; exact hi) hl, prtL_get hi] at e
  have e2 := prtL_get (k := k + 1) hi
  rw [getD_elem 0 h2] at e2
  rw [e2, parM, if_neg hv]
  have e3 : (pars nodes k 2).getD i 0 = (pars nodes k 2)[i] := getD_elem 0 h1
  rw [← e3]
  show (bump (bump (prtL nodes k) (nodes.getD k nod0).left) (nodes.getD k nod0).right).getD i 0 = _
  rw [e]
  omega
theorem prtL_skip {nodes : List Nod} {k : Nat} (hv : (nodes.getD k nod0).var = -1) : prtL nodes (k + 1) = prtL nodes k := by
 unfold prtL
 congr 1
 funext i
 rw [parM, if_pos hv, Int.add_zero]
theorem wellFormedF (n : Nat) (nodes : List Nod) (hn : n ≤ 1000) (ho : okN nodes) : PSpec Tryz.prog 101 [.int .i64 n, .agg [.sl nod0 encNo nodes]] (fun u => u = .bool (decide (wefB n nodes))) := by
 have ho1 := ho.1
 refine PSpec.intro tt_ok mx_ok Tryz.func101 rfl (by decide) ?_; (conv => whnf)
 refine boxP rfl ?_
 conv => whnf
 refine cmpI ?_ ?_ <;> (intro h; conv => whnf)
 ·exact ⟨dec_f (fun hh => by have := hh.1; omega), rfl⟩
 refine cmpI (fun h' => ?_) (fun h' => ?_) <;> conv => whnf
 ·exact ⟨dec_f (fun hh => by have := hh.1; omega), rfl⟩
 refine mkI 0 encI 0 rfl (by dsimp only; omega) ?_
 rw [tN, ← prtL_zero]
 conv => whnf
 refine WPc.loopF tt_ok mx_ok (fun k : Nat => k ≤ nodes.length ∧ (∀ i, i < k → nodV n nodes.length i (nodes.getD i nod0)) ∧ (linN nodes k : Int) ≤ 140737488355328 * (k : Int)) (fun k => [(30, .int .i64 (k : Int)), (6, .int .i64 (linN nodes k : Int))]) (fun k => [(26, .row 3 0 encI (prtL nodes k))]) (fun k => nodes.length - k) 0 ⟨Nat.zero_le _, fun j hj => absurd hj (Nat.not_lt_zero _), by simp [linN]⟩ ?_; conv => whnf
 refine ⟨sI, ?_⟩
 rintro k ⟨hk, ha, hb⟩
 conv => whnf
 refine cmpI ?_ ?_ <;> (intro h1; conv => whnf)
 ·have hlt : k < nodes.length := by omega
  have hln := (ho.2 k hlt).1
  have hlin : (linN nodes (k + 1) : Int) = (linN nodes k : Int) + ((nodes.getD k nod0).lines.length : Int) := by rw [linN]; push_cast; rfl
  refine nI ?_
  rw [tN]
  conv => whnf
  refine aI ?_
  conv => whnf
  refine cmpI ?_ ?_ <;> (intro h2; conv => whnf)
  ·repeat' ((first|refine nI ?_|refine aI ?_|refine arU trivial (by omega) ?_|refine arB trivial (by omega) ?_|refine dI ?_|refine dR ?_|refine dP ?_|refine boxP rfl ?_|refine pI _ rfl ?_|refine rowSetI _ rfl ?_|refine tI ?_|refine fI ?_|refine cmpI (fun _ => ?_) (fun _ => ?_)) <;> conv => whnf)
   refine ⟨k + 1, ?_, ⟨by omega, fun i hi => ?_, by omega⟩, by dsimp only; omega⟩
   ·dsimp only
    rw [prtL_skip h2, hlin]
    exact sI
   ·by_cases e : i = k
    ·subst e; exact .inl h2
    ·exact ha i (by omega)
  have no : ¬ ((0 ≤ (nodes.getD k nod0).var ∧ (nodes.getD k nod0).var < (n : Int)) ∧ (0 ≤ (nodes.getD k nod0).at_ ∧ (nodes.getD k nod0).at_ ≤ 1048576) ∧ ((k : Int) < (nodes.getD k nod0).left ∧ (nodes.getD k nod0).left < nodes.length) ∧ ((k : Int) < (nodes.getD k nod0).right ∧ (nodes.getD k nod0).right < nodes.length)) → ¬ wefB n nodes := fun h hh => by
   have := hh.2.1 k hlt
   unfold nodV at this
   rcases this with h3 | h3
   ·exact h2 h3
   ·exact h h3
  refine cmpI ?_ ?_ <;> (intro h3; conv => whnf)
  ·exact ⟨dec_f (no (by omega)), rfl⟩
  refine cmpI ?_ ?_ <;> (intro h4; conv => whnf)
  ·exact ⟨dec_f (no (by omega)), rfl⟩
  refine cmpI ?_ ?_ <;> (intro h5; conv => whnf)
  ·exact ⟨dec_f (no (by omega)), rfl⟩
  refine cmpI ?_ ?_ <;> (intro h6; conv => whnf)
  ·exact ⟨dec_f (no (by omega)), rfl⟩
  refine WPc.loopF tt_ok mx_ok (fun j : Nat => j ≤ 2 ∧ ∀ i, i < j → (k : Int) < [(nodes.getD k nod0).left, (nodes.getD k nod0).right].getD i 0 ∧ [(nodes.getD k nod0).left, (nodes.getD k nod0).right].getD i 0 < nodes.length) (fun j => [(68, .int .i64 (j : Int))]) (fun j => [(26, .row 3 0 encI (pars nodes k j)), (8, .box 164 (encNo (nodes.getD k nod0))), (66, .row 3 0 encI [(nodes.getD k nod0).left, (nodes.getD k nod0).right])]) (fun j => 2 - j) 0 ⟨Nat.zero_le _, fun j hj => absurd hj (Nat.not_lt_zero _)⟩ ?_; conv => whnf
  refine ⟨sI, ?_⟩
  rintro j ⟨hj, hc⟩
  conv => whnf
  refine cmpI ?_ ?_ <;> (intro h7; conv => whnf)
  ·have hj2 : j < 2 := by omega
   refine nI ?_
   rw [tN]
   conv => whnf
   have hdo : (j = 0 ∧ [(nodes.getD k nod0).left, (nodes.getD k nod0).right].getD j 0 = (nodes.getD k nod0).left) ∨ (j = 1 ∧ [(nodes.getD k nod0).left, (nodes.getD k nod0).right].getD j 0 = (nodes.getD k nod0).right) := by
    rcases (show j = 0 ∨ j = 1 by omega) with rfl | rfl
    ·exact .inl ⟨rfl, rfl⟩
    ·exact .inr ⟨rfl, rfl⟩
   refine cmpI ?_ ?_ <;> (intro h8; conv => whnf)
   ·exact ⟨dec_f (no (by omega)), rfl⟩
   refine cmpI ?_ ?_ <;> (intro h9; conv => whnf)
   ·exact ⟨dec_f (no (by omega)), rfl⟩
   have lP := pars_len nodes k j
   refine nI ?_
   conv => whnf
   have hv : 0 ≤ (pars nodes k j).getD ([(nodes.getD k nod0).left, (nodes.getD k nod0).right].getD j 0).toNat 0 ∧ (pars nodes k j).getD ([(nodes.getD k nod0).left, (nodes.getD k nod0).right].getD j 0).toNat 0 ≤ 2 * (k : Int) + 2 := by
    have hp := parM_b nodes (([(nodes.getD k nod0).left, (nodes.getD k nod0).right].getD j 0).toNat : Nat) k
    rcases hdo with ⟨rfl, e⟩ | ⟨rfl, e⟩
    ·show 0 ≤ (prtL nodes k).getD _ 0 ∧ (prtL nodes k).getD _ 0 ≤ _
     rw [prtL_get (by omega)]
     omega
    ·have := (hc 0 (by omega)).1
     have e0 : [(nodes.getD k nod0).left, (nodes.getD k nod0).right].getD 0 0 = (nodes.getD k nod0).left := rfl
     rw [e0] at this
     show 0 ≤ (bump (prtL nodes k) (nodes.getD k nod0).left).getD _ 0 ∧ (bump (prtL nodes k) (nodes.getD k nod0).left).getD _ 0 ≤ _
     rw [bump_get (by rw [prtL_len]; omega) (by omega), prtL_get (by omega)]
     split <;> omega
   refine aI ?_
   conv => whnf
   refine nI ?_
   conv => whnf
   refine rowSetI _ rfl ?_
   conv => whnf
   repeat' ((first|refine nI ?_|refine aI ?_|refine arU trivial (by omega) ?_|refine arB trivial (by omega) ?_|refine dI ?_|refine dR ?_|refine dP ?_|refine boxP rfl ?_|refine pI _ rfl ?_|refine rowSetI _ rfl ?_|refine tI ?_|refine fI ?_|refine cmpI (fun _ => ?_) (fun _ => ?_)) <;> conv => whnf)
   refine ⟨j + 1, ?_, ⟨by omega, fun i hi => ?_⟩, by dsimp only; omega⟩
   ·dsimp only
    rcases hdo with ⟨rfl, e⟩ | ⟨rfl, e⟩
    ·exact sI
    ·exact sI
   ·by_cases e : i = j
    ·subst e; omega
    ·exact hc i (by omega)
  ·obtain rfl : j = 2 := by omega
   have c0 := hc 0 (by omega)
   have c1 := hc 1 (by omega)
   have e0 : [(nodes.getD k nod0).left, (nodes.getD k nod0).right].getD 0 0 = (nodes.getD k nod0).left := rfl
   have e1 : [(nodes.getD k nod0).left, (nodes.getD k nod0).right].getD 1 0 = (nodes.getD k nod0).right := rfl
   rw [e0] at c0
   rw [e1] at c1
   repeat' ((first|refine nI ?_|refine aI ?_|refine arU trivial (by omega) ?_|refine arB trivial (by omega) ?_|refine dI ?_|refine dR ?_|refine dP ?_|refine boxP rfl ?_|refine pI _ rfl ?_|refine rowSetI _ rfl ?_|refine tI ?_|refine fI ?_|refine cmpI (fun _ => ?_) (fun _ => ?_)) <;> conv => whnf)
   refine ⟨k + 1, ?_, ⟨by omega, fun i hi => ?_, by omega⟩, by dsimp only; omega⟩
   ·dsimp only
    rw [← pars_two h2 (by omega) (by omega), hlin]
    exact sI
   ·by_cases e : i = k
    ·subst e; exact .inr ⟨by omega, by omega, by omega, by omega⟩
    ·exact ha i (by omega)
 ·obtain rfl : k = nodes.length := by omega
  have lP := prtL_len nodes nodes.length
  refine WPc.loopF tt_ok mx_ok (fun j : Nat => j ≤ nodes.length ∧ ∀ i, i < j → 0 < i → parM nodes i nodes.length = 1) (fun j => [(92, .int .i64 (j : Int))]) (fun j => [(26, .row 3 0 encI (prtL nodes nodes.length))]) (fun j => nodes.length - j) 0 ⟨Nat.zero_le _, fun j hj => absurd hj (Nat.not_lt_zero _)⟩ ?_; conv => whnf
  refine ⟨sI, ?_⟩
  rintro j ⟨hj, hc⟩
  conv => whnf
  refine cmpI ?_ ?_ <;> (intro h2; conv => whnf)
  ·refine nI ?_
   rw [tN]
   conv => whnf
   rw [prtL_get (show j < nodes.length by omega)]
   conv => whnf
   refine cmpI ?_ ?_ <;> (intro h3; conv => whnf)
   ·refine cmpI ?_ ?_ <;> (intro h4; conv => whnf)
    ·exact ⟨dec_f (fun hh => h4 (hh.2.2.1 j (by omega) (by omega))), rfl⟩
    ·repeat' ((first|refine nI ?_|refine aI ?_|refine arU trivial (by omega) ?_|refine arB trivial (by omega) ?_|refine dI ?_|refine dR ?_|refine dP ?_|refine boxP rfl ?_|refine pI _ rfl ?_|refine rowSetI _ rfl ?_|refine tI ?_|refine fI ?_|refine cmpI (fun _ => ?_) (fun _ => ?_)) <;> conv => whnf)
     refine ⟨j + 1, sI, ⟨by omega, fun i hi h0 => ?_⟩, by dsimp only; omega⟩
     by_cases e : i = j
     ·subst e; exact Classical.not_not.1 h4
     ·exact hc i (by omega) h0
   ·repeat' ((first|refine nI ?_|refine aI ?_|refine arU trivial (by omega) ?_|refine arB trivial (by omega) ?_|refine dI ?_|refine dR ?_|refine dP ?_|refine boxP rfl ?_|refine pI _ rfl ?_|refine rowSetI _ rfl ?_|refine tI ?_|refine fI ?_|refine cmpI (fun _ => ?_) (fun _ => ?_)) <;> conv => whnf)
    refine ⟨j + 1, sI, ⟨by omega, fun i hi h0 => ?_⟩, by dsimp only; omega⟩
    exact hc i (by omega) h0
  ·obtain rfl : j = nodes.length := by omega
   refine cmpI ?_ ?_ <;> (intro h3; conv => whnf)
   ·exact ⟨dec_t ⟨by omega, ha, hc, by omega⟩, rfl⟩
   ·exact ⟨dec_f (fun hh => h3 (by have := hh.2.2.2; omega)), rfl⟩
def chkN (n : Nat) (nodes : List Nod) (rows : List Row) : List (Nat × Blk) := [(7001, .box 161 [.int .i64 n, .sl nod0 encNo nodes, .row 7003 rows.length 2]), (7002, .dead), (7003, .row 102 row0 encRw rows)]
def nodR (n : Nat) (nodes : List Nod) (rows : List Row) (b : Bool) (u : AV) (M : Mem) : Prop := u = .bool b ∧ ∃ ex, ex.length ≤ 400 ∧ M = Mem.ofL (chkN n nodes (rows ++ ex))
theorem childF (n : Nat) (nodes : List Nod) (rows : List Row) (i : Int) (sp : Row) (b : Bool) (hl : rows.length ≤ 1000000)
  (h : Spec Tryz.prog 102 [.ptr 7001 0, .int .i64 i] (Mem.ofL (chkL n nodes (rows ++ [sp]))) (nodR n nodes (rows ++ [sp]) b)) :
  Spec Tryz.prog 140 [.ptr 7001 0, .int .i64 i, .agg (encRw sp)] (Mem.ofL (chkL n nodes rows)) (fun u M => u = .bool b ∧ M = Mem.ofL (chkN n nodes rows)) := by
 refine Spec.renorm 400 (R := fun u M => u = .bool b ∧ memR [(7001, .old 7001), (7002, .old 7002), (7003, .old 33)] 400 M (chkN n nodes rows)) ?_ ?_
 case refine_2 =>
  rintro u M' ⟨rfl, hM⟩
  exact ⟨_, _, .bool b, rfl, hM, rfl, rfl, rfl⟩
 refine Spec.intro tt_ok mx_ok (chkL n nodes rows) Tryz.func140 rfl (by decide) ?_
 conv => whnf
 refine boxP rfl ?_
 conv => whnf
 first | refine dI ?_ | refine drawG (by decide +kernel) ?_
 conv => whnf
 refine bldI row0 encRw [sp] rfl ?_
 conv => whnf
 refine leakN ?_
 conv => whnf
 refine appI [sp] rfl lI ?_
 conv => whnf
 refine Spec.call [(7001, .old 7001), (7002, .old 21)] (chkL n nodes (rows ++ [sp])) 400 rfl (auto_) (auto_) h ?_
 rintro u M' ⟨rfl, ex, hex, rfl⟩
 refine ⟨[(7001, .old 7001), (21, .old 7002), (1000, .old 7003)], [(7001, .box 161 [.int .i64 n, .sl nod0 encNo nodes, .row 1000 (rows ++ [sp] ++ ex).length 2]), (21, .dead), (1000, .row 102 row0 encRw (rows ++ [sp] ++ ex))], .bool b, rfl, (auto_), rfl, ?_⟩
 conv => whnf
 refine sliceC ?_
 conv => whnf
 refine needI (by simp only [List.length_append]; omega) ?_
 rw [tN, show (rows ++ [sp] ++ ex).take rows.length = rows by rw [List.append_assoc, List.take_left]]
 conv => whnf
 exact ⟨rfl, auto_⟩
def nodL (n : Nat) (nodes : List Nod) (i : Nat) (rows : List Row) : List (Nat × Blk) := [(7001, .box 161 [.int .i64 n, .sl nod0 encNo nodes, .row 1000 rows.length 2]), (7002, .dead), (1000, .row 102 row0 encRw rows), (5, .box 164 (encNo (nodes.getD i nod0)))]
theorem lnR_more {n : Nat} {rows : List Row} {l : List Der} : ∀ {k : Nat} {a : List Row}, lnR n rows l k = some a → ∃ ex, ex.length = k ∧ a = rows ++ ex
 |0, a, h => by cases h; exact ⟨[], rfl, by simp⟩
 |k + 1, a, h => by
  rw [lnR] at h
  cases hk : lnR n rows l k with
  |none => rw [hk] at h; cases h
  |some b =>
   rw [hk] at h
   dsimp only at h
   obtain ⟨ex, h1, rfl⟩ := lnR_more hk
   split at h
   ·cases h
    exact ⟨ex ++ [dvR n (rows ++ ex) (l.getD k der0)], by simp [h1], by simp⟩
   ·cases h
theorem lnR_none {n : Nat} {rows : List Row} {l : List Der} {k : Nat} (h : lnR n rows l k = none) : ∀ m, k ≤ m → lnR n rows l m = none := by
 intro m hm
 induction m with
 |zero => rw [Nat.le_zero.1 hm] at h; exact h
 |succ m ih =>
  by_cases e : k = m + 1
  ·rw [← e]; exact h
  ·rw [lnR, ih (by omega)]
theorem nodeF (n : Nat) (nodes : List Nod) (hn : n ≤ 96) (ho : okN nodes) (hw : wefB n nodes) : ∀ (m i : Nat) (rows : List Row), i < nodes.length → nodes.length - i ≤ m → rdyR n rows → rows.length + 401 * (nodes.length - i) ≤ 500000 →
  Spec Tryz.prog 102 [.ptr 7001 0, .int .i64 (i : Int)] (Mem.ofL (chkL n nodes rows)) (nodR n nodes rows (cloB n nodes m i rows))
 |0, i, rows, hi, hm, _, _ => by omega
 |m + 1, i, rows, hi, hm, hr, hl => by
  have hlen := hw.1
  have hlin : (nodes.getD i nod0).lines.length ≤ 400 := Nat.le_trans (linN_at nodes hi) hw.2.2.2
  have hok := (ho.2 i hi).2
  refine Spec.renorm 400 (R := fun u M => u = .bool (cloB n nodes (m + 1) i rows) ∧ ∃ ex, ex.length ≤ 400 ∧ (memR [(7001, .old 7001), (7002, .old 7002), (7003, .old 1000)] 400 M (chkN n nodes (rows ++ ex)) ∨
   memR [(7001, .old 7001), (7002, .old 7002), (7003, .old 1001)] 400 M (chkN n nodes (rows ++ ex)) ∨ memR [(7001, .old 7001), (7002, .old 7002), (7003, .old 1002)] 400 M (chkN n nodes (rows ++ ex)))) ?_ ?_
  case refine_2 =>
   rintro u M' ⟨rfl, ex, hex, hM | hM | hM⟩
   ·exact ⟨_, _, .bool (cloB n nodes (m + 1) i rows), rfl, hM, rfl, rfl, ex, hex, rfl⟩
   ·exact ⟨_, _, .bool (cloB n nodes (m + 1) i rows), rfl, hM, rfl, rfl, ex, hex, rfl⟩
   ·exact ⟨_, _, .bool (cloB n nodes (m + 1) i rows), rfl, hM, rfl, rfl, ex, hex, rfl⟩
  rw [cloB]
  refine Spec.intro tt_ok mx_ok (chkL n nodes rows) Tryz.func102 rfl (by decide) ?_
  conv => whnf
  refine nI ?_
  rw [tN]
  conv => whnf
  refine WPc.loopF tt_ok mx_ok (fun x : Nat × List Row => x.1 ≤ (nodes.getD i nod0).lines.length ∧ lnR n rows (nodes.getD i nod0).lines x.1 = some x.2) (fun x => [(22, .int .i64 (x.1 : Int))]) (fun x => nodL n nodes i x.2) (fun x => (nodes.getD i nod0).lines.length - x.1) (0, rows) ⟨Nat.zero_le _, rfl⟩ ?_; conv => whnf
  refine ⟨Sub.by_ [(7001, .old 7001), (7002, .old 7002), (1000, .old 7002), (5, .old 5)] _ 400 rfl (auto_) (auto_), ?_⟩
  rintro ⟨k, a⟩ ⟨hk, ha⟩
  dsimp only at hk ha
  obtain ⟨hra, hla⟩ := lnR_rdy hr ha
  obtain ⟨ex, hex, hae⟩ := lnR_more ha
  conv => whnf
  refine cmpI ?_ ?_ <;> (intro h1; conv => whnf)
  ·have hlt : k < (nodes.getD i nod0).lines.length := by omega
   refine nI ?_
   rw [tN]
   conv => whnf
   refine Spec.call [(7001, .old 7001), (7002, .old 1000)] (chkL n nodes a) 400 rfl (auto_) (auto_) (deriveF n nodes a ((nodes.getD i nod0).lines.getD k der0) hn hra (by omega) (hok k hlt)) ?_
   rintro u M' ⟨hu, rfl⟩
   rcases hu with ⟨hb, rfl⟩ | ⟨hb, r, rfl⟩
   ·refine ⟨[(7001, .old 7001), (1000, .old 7002)], [(7001, .box 161 [.int .i64 n, .sl nod0 encNo nodes, .row 1000 a.length 2]), (1000, .row 102 row0 encRw a)], .tup [.agg (encRw (dvR n a ((nodes.getD i nod0).lines.getD k der0))), .bool true], rfl, (auto_), (auto_), ?_⟩
    conv => whnf
    first | refine dI ?_ | refine drawG (by decide +kernel) ?_
    conv => whnf
    refine bldI row0 encRw [dvR n a ((nodes.getD i nod0).lines.getD k der0)] rfl ?_
    conv => whnf
    refine leakN ?_
    conv => whnf
    refine appI [dvR n a ((nodes.getD i nod0).lines.getD k der0)] rfl lI ?_
    conv => whnf
    repeat' ((first|refine nI ?_|refine aI ?_|refine arU trivial (by omega) ?_|refine arB trivial (by omega) ?_|refine dI ?_|refine dR ?_|refine dP ?_|refine boxP rfl ?_|refine pI _ rfl ?_|refine rowSetI _ rfl ?_|refine tI ?_|refine fI ?_|refine cmpI (fun _ => ?_) (fun _ => ?_)) <;> conv => whnf)
    refine ⟨(k + 1, a ++ [dvR n a ((nodes.getD i nod0).lines.getD k der0)]), ?_, ⟨by dsimp only; omega, ?_⟩, by dsimp only; omega⟩
    ·exact Sub.by_ [(7001, .old 7001), (7002, .old 7002), (1000, .old 41), (5, .old 5)] _ 400 rfl (auto_) (auto_)
    ·dsimp only
     rw [lnR, ha]
     dsimp only
     rw [if_pos hb]
   ·refine ⟨[(7001, .old 7001), (1000, .old 7002)], [(7001, .box 161 [.int .i64 n, .sl nod0 encNo nodes, .row 1000 a.length 2]), (1000, .row 102 row0 encRw a)], .tup [.agg (encRw r), .bool false], rfl, (auto_), (auto_), ?_⟩
    conv => whnf
    have hno : lnR n rows (nodes.getD i nod0).lines (nodes.getD i nod0).lines.length = none := by
     refine lnR_none (k := k + 1) ?_ _ (by omega)
     rw [lnR, ha]
     dsimp only
     rw [if_neg hb]
    rw [hno]
    refine ⟨rfl, ex, by omega, .inl ?_⟩
    rw [← hae]
    exact (auto_)
  ·obtain rfl : k = (nodes.getD i nod0).lines.length := by omega
   rw [ha]
   dsimp only
   have hv := hw.2.1 i hi
   unfold nodV at hv
   by_cases h2 : (nodes.getD i nod0).var = -1
   ·refine cmpT h2 ?_
    rw [if_pos h2]
    conv => whnf
    refine WPc.loopF tt_ok mx_ok (fun j : Nat => j ≤ a.length ∧ ∀ y, y < j → ¬ conB (a.getD y row0)) (fun j => [(53, .int .i64 (j : Int))]) (fun j => nodL n nodes i a) (fun j => a.length - j) 0 ⟨Nat.zero_le _, fun j hj => absurd hj (Nat.not_lt_zero _)⟩ ?_; conv => whnf
    refine ⟨sI, ?_⟩
    rintro j ⟨hj, hc⟩
    conv => whnf
    refine cmpI ?_ ?_ <;> (intro h3; conv => whnf)
    ·refine nI ?_
     rw [tN]
     conv => whnf
     have hwj := hra j (by omega)
     refine dC (ContradictoryF (a.getD j row0) (by omega)) (fun _ => ?_) (fun _ => ?_) <;> (conv => whnf)
     ·rename_i h4
      refine ⟨dec_t ⟨j, by omega, h4⟩, ex, by omega, .inl ?_⟩
      rw [← hae]
      exact (auto_)
     ·rename_i h4
      repeat' ((first|refine nI ?_|refine aI ?_|refine arU trivial (by omega) ?_|refine arB trivial (by omega) ?_|refine dI ?_|refine dR ?_|refine dP ?_|refine boxP rfl ?_|refine pI _ rfl ?_|refine rowSetI _ rfl ?_|refine tI ?_|refine fI ?_|refine cmpI (fun _ => ?_) (fun _ => ?_)) <;> conv => whnf)
      refine ⟨j + 1, sI, ⟨by omega, fun y hy => ?_⟩, by dsimp only; omega⟩
      by_cases e : y = j
      ·subst e; exact h4
      ·exact hc y (by omega)
    ·refine ⟨dec_f (fun ⟨y, h4, h5⟩ => hc y (by omega) h5), ex, by omega, .inl ?_⟩
     rw [← hae]
     exact (auto_)
   ·refine cmpF h2 ?_
    rw [if_neg h2]
    conv => whnf
    obtain ⟨v1, v2, v3, v4⟩ := hv.resolve_left h2
    have hL := nodeF n nodes hn ho hw m (nodes.getD i nod0).left.toNat (a ++ [splL n (nodes.getD i nod0).var (nodes.getD i nod0).at_]) (by omega) (by omega) (rdy_app hra (spl_rdy (.inr rfl) (by unfold numB; omega))) (by rw [List.length_append]; simp only [List.length_cons, List.length_nil]; omega)
    have hR := nodeF n nodes hn ho hw m (nodes.getD i nod0).right.toNat (a ++ [splR n (nodes.getD i nod0).var ((nodes.getD i nod0).at_ + 1)]) (by omega) (by omega) (rdy_app hra (spl_rdy (.inl rfl) (by unfold numB; omega))) (by rw [List.length_append]; simp only [List.length_cons, List.length_nil]; omega)
    rw [Int.toNat_of_nonneg (by omega)] at hL hR
    generalize cloB n nodes m (nodes.getD i nod0).left.toNat (a ++ [splL n (nodes.getD i nod0).var (nodes.getD i nod0).at_]) = bL at hL ⊢
    generalize cloB n nodes m (nodes.getD i nod0).right.toNat (a ++ [splR n (nodes.getD i nod0).var ((nodes.getD i nod0).at_ + 1)]) = bR at hR ⊢
    have cL := childF n nodes a _ _ bL (by omega) hL
    have cR := childF n nodes a _ _ bR (by omega) hR
    refine drawN .any [72, 87] (by decide +kernel) ?_
    conv => whnf
    (refine oC (atMostF n (nodes.getD i nod0).var (nodes.getD i nod0).at_ (by omega) v1) ?_; conv => whnf)
    refine Spec.call [(7001, .old 7001), (7002, .old 1000)] (chkL n nodes a) 400 rfl (auto_) (auto_) cL ?_
    rintro u M' ⟨rfl, rfl⟩
    refine ⟨[(7001, .old 7001), (1000, .old 7002), (1001, .old 7003)], [(7001, .box 161 [.int .i64 n, .sl nod0 encNo nodes, .row 1001 a.length 2]), (1000, .dead), (1001, .row 102 row0 encRw a)], .bool bL, rfl, (auto_), rfl, ?_⟩
    cases bL with
    |false =>
     conv => whnf
     refine ⟨rfl, ex, by omega, .inr (.inl ?_)⟩
     rw [← hae]
     exact (auto_)
    |true =>
     conv => whnf
     refine aI ?_
     conv => whnf
     (refine oC (atLeastF n (nodes.getD i nod0).var ((nodes.getD i nod0).at_ + 1) (by omega) v1 (by omega)) ?_; conv => whnf)
     refine Spec.call [(7001, .old 7001), (7002, .old 1001)] (chkL n nodes a) 400 rfl (auto_) (auto_) cR ?_
     rintro u M' ⟨rfl, rfl⟩
     refine ⟨[(7001, .old 7001), (1001, .old 7002), (1002, .old 7003)], [(7001, .box 161 [.int .i64 n, .sl nod0 encNo nodes, .row 1002 a.length 2]), (1001, .dead), (1002, .row 102 row0 encRw a)], .bool bR, rfl, (auto_), rfl, ?_⟩
     conv => whnf
     refine ⟨rfl, ex, by omega, .inr (.inr ?_)⟩
     rw [← hae]
     exact (auto_)
theorem CheckRefutationF (s : LSys) (nodes : List Nod) (hs : okS s) (ho : okN nodes) : PSpec Tryz.prog 57 [.agg (encSy s), .agg [.sl nod0 encNo nodes]] (fun u => u = .bool (decide (refB s nodes))) := by
 have ho1 := ho.1
 refine PSpec.intro tt_ok mx_ok Tryz.func57 rfl (by decide) ?_; (conv => whnf)
 refine boxP rfl ?_
 conv => whnf
 refine boxP rfl ?_
 conv => whnf
 (refine oP (ValidateF s hs) ?_; conv => whnf)
 refine cmpI ?_ ?_ <;> (intro h; conv => whnf)
 ·exact ⟨dec_f (fun hh => h hh.1), rfl⟩
 have h0 : sysE s = 0 := Classical.not_not.1 h
 obtain ⟨a1, a2, a3, a4⟩ := sysE_ok h0
 have hw := wellFormedF s.vars.toNat nodes (by omega) ho
 rw [Int.toNat_of_nonneg a1.1] at hw
 refine dC (hw) (fun _ => ?_) (fun _ => ?_) <;> (conv => whnf)
 case refine_2 => rename_i h2; exact ⟨dec_f (fun hh => h2 hh.2.1), rfl⟩
 rename_i h2
 refine nI ?_
 conv => whnf
 have hN := nodeF s.vars.toNat nodes (by omega) ho h2 nodes.length 0 s.rows (by have := h2.1; omega) (by omega) (sys_rdy h0) (by have := h2.1; omega)
 have ev : ((s.vars.toNat : Nat) : Int) = s.vars := Int.toNat_of_nonneg a1.1
 unfold chkL nodR chkN at hN
 rw [ev] at hN
 refine Spec.call [(7001, .old 5), (7002, .old 25)] [(7001, .box 161 [.int .i64 s.vars, .sl nod0 encNo nodes, .row 7002 s.rows.length 2]), (7002, .row 102 row0 encRw s.rows)] 400 rfl (auto_) (auto_) hN ?_
 rintro u M' ⟨rfl, ex, hex, rfl⟩
 refine ⟨[(5, .old 7001), (25, .old 7002), (1000, .old 7003)], [(5, .box 161 [.int .i64 s.vars, .sl nod0 encNo nodes, .row 1000 (s.rows ++ ex).length 2]), (25, .dead), (1000, .row 102 row0 encRw (s.rows ++ ex))], .bool (cloB s.vars.toNat nodes nodes.length 0 s.rows), rfl, (auto_), rfl, ?_⟩
 conv => whnf
 refine ⟨?_, rfl⟩
 refine avB_ ?_
 cases hc : cloB s.vars.toNat nodes nodes.length 0 s.rows with
 |true => exact (decide_eq_true (p := refB s nodes) ⟨h0, h2, hc⟩).symm
 |false => exact (decide_eq_false (p := refB s nodes) fun h => by have := h.2.2; rw [hc] at this; cases this).symm
end Go.Proofs.YtfoplfpbjajljaaGreatDoor
