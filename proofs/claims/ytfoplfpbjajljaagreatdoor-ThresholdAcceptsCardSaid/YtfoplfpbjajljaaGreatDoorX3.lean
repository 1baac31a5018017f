import Derived.Test.YtfoplfpbjajljaaGreatDoorX2
set_option linter.unusedVariables false
set_option linter.unusedSimpArgs false
namespace Go.Proofs.YtfoplfpbjajljaaGreatDoor
set_option maxRecDepth 100000
set_option maxHeartbeats 32000000
theorem withinR1 (n lo hi : Int) : PSpec Tryz.prog 99 [.int .i64 n, .int .i64 lo, .int .i64 hi] (fun u => u = .bool (decide (lo ≤ n ∧ n ≤ hi))) := by
 refine PSpec.intro tt_ok mx_ok Tryz.func99 rfl (by decide) ?_; (conv => whnf)
 refine cmpI ?_ ?_ <;> (intro h; conv => whnf)
 ·refine cmpI ?_ ?_ <;> (intro h2; conv => whnf)
  ·exact ⟨dec_t ⟨by omega, by omega⟩, rfl⟩
  ·exact ⟨dec_f (fun hh => by omega), rfl⟩
 ·exact ⟨dec_f (fun hh => by omega), rfl⟩
theorem SmallR (r : Row) (hl : r.coef.length ≤ 140737488355328) : PSpec Tryz.prog 136 [.agg (encRw r)] (fun u => u = .bool (decide (smlB r))) := by
 refine PSpec.intro tt_ok mx_ok Tryz.func136 rfl (by decide) ?_; (conv => whnf)
 refine boxP rfl ?_
 conv => whnf
 refine WPc.loopF tt_ok mx_ok (fun k : Nat => k ≤ r.coef.length ∧ ∀ j, j < k → numB (r.coef.getD j 0)) (fun k => [(3, .int .i64 (k : Int))]) (fun _ => []) (fun k => r.coef.length - k) 0 ⟨Nat.zero_le _, fun j hj => absurd hj (Nat.not_lt_zero _)⟩ ?_; conv => whnf
 refine ⟨sI, ?_⟩
 rintro k ⟨hk, ha⟩
 conv => whnf
 refine cmpI ?_ ?_ <;> (intro h1; conv => whnf)
 ·refine nI ?_
  rw [tN]
  conv => whnf
  refine dC (withinR1 (r.coef.getD k 0) (-68719476736) 68719476736) (fun _ => ?_) (fun _ => ?_) <;> (conv => whnf)
  ·rename_i h2
   repeat' ((first|refine nI ?_|refine aI ?_|refine arU trivial (by omega) ?_|refine arB trivial (by omega) ?_|refine dI ?_|refine dR ?_|refine dP ?_|refine boxP rfl ?_|refine pI _ rfl ?_|refine rowSetI _ rfl ?_|refine tI ?_|refine fI ?_|refine cmpI (fun _ => ?_) (fun _ => ?_)) <;> conv => whnf)
   refine ⟨k + 1, sI, ⟨by omega, fun j hj => ?_⟩, by dsimp only; omega⟩
   by_cases e : j = k
   ·subst e; exact h2
   ·exact ha j (by omega)
  ·rename_i h2
   exact ⟨dec_f (fun h => h2 (h.1 k (by omega))), rfl⟩
 ·obtain rfl : k = r.coef.length := by omega
  refine dC (withinR1 r.const (-68719476736) 68719476736) (fun _ => ?_) (fun _ => ?_) <;> (conv => whnf)
  ·rename_i h2
   exact ⟨dec_t ⟨ha, h2⟩, rfl⟩
  ·rename_i h2
   exact ⟨dec_f (fun h => h2 h.2), rfl⟩
theorem ValidateR (s : LSys) (hs : okS s) : PSpec Tryz.prog 98 [.agg (encSy s)] (fun u => u = .int .i64 (sysE s)) := by
 have hs1 := hs.1
 refine PSpec.intro tt_ok mx_ok Tryz.func98 rfl (by decide) ?_; (conv => whnf)
 refine boxP rfl ?_
 conv => whnf
 refine dC (withinR1 s.vars 0 96) (fun _ => ?_) (fun _ => ?_) <;> (conv => whnf)
 rotate_left
 ·rename_i h
  exact ⟨avI (by unfold sysE; rw [if_pos (by omega)]), rfl⟩
 rename_i h
 have h0 : ¬ (s.vars < 0 ∨ 96 < s.vars) := by omega
 refine WPc.loopF tt_ok mx_ok (fun k : Nat => k ≤ s.rows.length ∧ ∀ j, j < k → ((s.rows.getD j row0).coef.length : Int) = s.vars) (fun k => [(3, .int .i64 (k : Int))]) (fun _ => []) (fun k => s.rows.length - k) 0 ⟨Nat.zero_le _, fun j hj => absurd hj (Nat.not_lt_zero _)⟩ ?_; conv => whnf
 refine ⟨sI, ?_⟩
 rintro k ⟨hk, ha⟩
 conv => whnf
 refine cmpI ?_ ?_ <;> (intro h1; conv => whnf)
 ·have hc := hs.2 k (by omega)
  refine dI ?_
  conv => whnf
  refine nI ?_
  rw [tN]
  conv => whnf
  refine cmpI ?_ ?_ <;> (intro h2; conv => whnf)
  ·exact ⟨avI (sysE_b fun hw => h2 (hw k (by omega))).symm, rfl⟩
  ·repeat' ((first|refine nI ?_|refine aI ?_|refine arU trivial (by omega) ?_|refine arB trivial (by omega) ?_|refine dI ?_|refine dR ?_|refine dP ?_|refine boxP rfl ?_|refine pI _ rfl ?_|refine rowSetI _ rfl ?_|refine tI ?_|refine fI ?_|refine cmpI (fun _ => ?_) (fun _ => ?_)) <;> conv => whnf)
   refine ⟨k + 1, sI, ⟨by omega, fun j hj => ?_⟩, by dsimp only; omega⟩
   by_cases e : j = k
   ·subst e; exact Classical.not_not.1 h2
   ·exact ha j (by omega)
 ·obtain rfl : k = s.rows.length := by omega
  have hw : widB s := ha
  refine cmpI ?_ ?_ <;> (intro h2; conv => whnf)
  ·exact ⟨avI (sysE_c h0 hw (by omega)).symm, rfl⟩
  refine WPc.loopF tt_ok mx_ok (fun k : Nat => k ≤ s.rows.length ∧ ∀ j, j < k → smlB (s.rows.getD j row0)) (fun k => [(4, .int .i64 (k : Int))]) (fun _ => []) (fun k => s.rows.length - k) 0 ⟨Nat.zero_le _, fun j hj => absurd hj (Nat.not_lt_zero _)⟩ ?_; conv => whnf
  refine ⟨sI, ?_⟩
  rintro k ⟨hk, hb⟩
  conv => whnf
  refine cmpI ?_ ?_ <;> (intro h1; conv => whnf)
  ·refine nI ?_
   rw [tN]
   conv => whnf
   have hc := hs.2 k (by omega)
   refine dC (SmallR (s.rows.getD k row0) hc) (fun _ => ?_) (fun _ => ?_) <;> (conv => whnf)
   ·rename_i h3
    repeat' ((first|refine nI ?_|refine aI ?_|refine arU trivial (by omega) ?_|refine arB trivial (by omega) ?_|refine dI ?_|refine dR ?_|refine dP ?_|refine boxP rfl ?_|refine pI _ rfl ?_|refine rowSetI _ rfl ?_|refine tI ?_|refine fI ?_|refine cmpI (fun _ => ?_) (fun _ => ?_)) <;> conv => whnf)
    refine ⟨k + 1, sI, ⟨by omega, fun j hj => ?_⟩, by dsimp only; omega⟩
    by_cases e : j = k
    ·subst e; exact h3
    ·exact hb j (by omega)
   ·rename_i h3
    exact ⟨avI (sysE_d h0 hw (fun hh => h3 (hh k (by omega)))).symm, rfl⟩
  ·obtain rfl : k = s.rows.length := by omega
   exact ⟨avI (sysE_mk (by omega) hw (by omega) hb).symm, rfl⟩
theorem ContradictoryR (r : Row) (hl : r.coef.length ≤ 140737488355328) : PSpec Tryz.prog 144 [.agg (encRw r)] (fun u => u = .bool (decide (conB r))) := by
 refine PSpec.intro tt_ok mx_ok Tryz.func144 rfl (by decide) ?_; (conv => whnf)
 refine boxP rfl ?_
 conv => whnf
 refine WPc.loopF tt_ok mx_ok (fun k : Nat => k ≤ r.coef.length ∧ ∀ j, j < k → r.coef.getD j 0 ≤ 0) (fun k => [(3, .int .i64 (k : Int))]) (fun _ => []) (fun k => r.coef.length - k) 0 ⟨Nat.zero_le _, fun j hj => absurd hj (Nat.not_lt_zero _)⟩ ?_; conv => whnf
 refine ⟨sI, ?_⟩
 rintro k ⟨hk, ha⟩
 conv => whnf
 refine cmpI ?_ ?_ <;> (intro h1; conv => whnf)
 ·refine nI ?_
  rw [tN]
  conv => whnf
  refine cmpI ?_ ?_ <;> (intro h2; conv => whnf)
  ·exact ⟨dec_f (fun h => by have := h.1 k (by omega); omega), rfl⟩
  ·repeat' ((first|refine nI ?_|refine aI ?_|refine arU trivial (by omega) ?_|refine arB trivial (by omega) ?_|refine dI ?_|refine dR ?_|refine dP ?_|refine boxP rfl ?_|refine pI _ rfl ?_|refine rowSetI _ rfl ?_|refine tI ?_|refine fI ?_|refine cmpI (fun _ => ?_) (fun _ => ?_)) <;> conv => whnf)
   refine ⟨k + 1, sI, ⟨by omega, fun j hj => ?_⟩, by dsimp only; omega⟩
   by_cases e : j = k
   ·subst e; omega
   ·exact ha j (by omega)
 ·obtain rfl : k = r.coef.length := by omega
  refine cmpI ?_ ?_ <;> (intro h2; conv => whnf)
  ·exact ⟨dec_t ⟨ha, h2⟩, rfl⟩
  ·exact ⟨dec_f (fun h => h2 h.2), rfl⟩
theorem downR (a d : Int) (ha : -9223372036854775807 ≤ a ∧ a ≤ 9223372036854775807) (hd : 1 ≤ d) : PSpec Tryz.prog 162 [.int .i64 a, .int .i64 d] (fun u => u = .int .i64 (flr a d)) := by
 have hq : -9223372036854775807 ≤ a.tdiv d ∧ a.tdiv d ≤ 9223372036854775807 := by
  have h := Int.natAbs_tdiv_le_natAbs a d
  omega
 refine PSpec.intro tt_ok mx_ok Tryz.func162 rfl (by decide) ?_; (conv => whnf)
 refine arI (by omega) (by omega) ?_
 conv => whnf
 refine nI ?_
 conv => whnf
 refine cmpI ?_ ?_ <;> (intro h; conv => whnf)
 ·refine aI ?_
  conv => whnf
  exact ⟨avI (by unfold flr; rw [if_pos h]), rfl⟩
 ·exact ⟨avI (by unfold flr; rw [if_neg h]), rfl⟩
theorem splitL (n : Nat) (x : Nod) (hn : n ≤ 1000) (hv : 0 ≤ x.var ∧ x.var < n) : PSpec Tryz.prog 145 [.int .i64 n, .agg (encNo x), .bool true] (fun u => u = .agg (encRw (splL n x.var x.at_))) := by
 refine PSpec.intro tt_ok mx_ok Tryz.func145 rfl (by decide) ?_; (conv => whnf)
 refine boxP rfl ?_
 conv => whnf
 refine mkI 0 encI 0 rfl (by dsimp only; omega) ?_
 rw [tN]
 conv => whnf
 refine nI ?_
 conv => whnf
 refine rowSetI (-1) rfl ?_
 conv => whnf
 exact ⟨rfl, rfl⟩
theorem splitR (n : Nat) (x : Nod) (hn : n ≤ 1000) (hv : 0 ≤ x.var ∧ x.var < n) (ha : 0 ≤ x.at_ ∧ x.at_ ≤ 1048576) : PSpec Tryz.prog 145 [.int .i64 n, .agg (encNo x), .bool false] (fun u => u = .agg (encRw (splR n x.var (x.at_ + 1)))) := by
 refine PSpec.intro tt_ok mx_ok Tryz.func145 rfl (by decide) ?_; (conv => whnf)
 refine boxP rfl ?_
 conv => whnf
 refine mkI 0 encI 0 rfl (by dsimp only; omega) ?_
 rw [tN]
 conv => whnf
 refine nI ?_
 conv => whnf
 refine rowSetI 1 rfl ?_
 conv => whnf
 refine aI ?_
 conv => whnf
 refine aI ?_
 conv => whnf
 refine ⟨?_, rfl⟩
 unfold splR encRw
 rw [show -(x.at_ + 1) = 0 - x.at_ - 1 by omega]
 rfl
def drvL (rows : List Row) : List (Nat × Blk) := [(202, .row 102 row0 encRw rows)]
def drvS (n : Nat) (rows : List Row) (c : List Int) (k : Int) : List (Nat × Blk) :=
 [(202, .row 102 row0 encRw rows), (6, .box 102 [.nilsl, .int .i64 0]), (8, .box 102 [.row 35 n 1, .int .i64 k]), (35, .row 3 0 encI c)]
theorem deriveR (n : Nat) (rows : List Row) (d : Der) (hn : n ≤ 96) (hr : rdyR n rows) (hl : rows.length ≤ 10000000) (hd : okD d) :
  Spec Tryz.prog 143 [.int .i64 n, .row 202 rows.length 2, .agg (encDe d)] (Mem.ofL (drvL rows)) (fun u M => derA n rows d u ∧ M = Mem.ofL (drvL rows)) := by
 have hd1 := hd.1
 have hd2 := hd.2
 refine Spec.renorm 400 (R := fun u M => derU n rows d u ∧ memR (idL (drvL rows)) 400 M (drvL rows)) ?_ ?_
 case refine_2 =>
  rintro u M' ⟨hu | ⟨hb, rfl⟩, hM⟩
  ·rcases hu with ⟨hb, rfl⟩ | ⟨hb, r, rfl⟩
   ·exact ⟨_, _, .tup [.agg (encRw (dvR n rows d)), .bool true], rfl, hM, ⟨⟨rfl, rfl, trivial⟩, rfl, trivial⟩, .inl ⟨hb, rfl⟩, rfl⟩
   ·exact ⟨_, _, .tup [.agg (encRw r), .bool false], rfl, hM, ⟨⟨rfl, rfl, trivial⟩, rfl, trivial⟩, .inr ⟨hb, r, rfl⟩, rfl⟩
  ·exact ⟨_, _, .tup [.agg (encRw row0), .bool false], rfl, hM, ⟨⟨rfl, rfl, trivial⟩, rfl, trivial⟩, .inr ⟨hb, row0, rfl⟩, rfl⟩
 refine Spec.introL tt_ok mx_ok (drvL rows) Tryz.func143 rfl (by decide) ?_
 conv => whnf
 refine boxP rfl ?_
 conv => whnf
 have hno : ∀ {M : Mem}, ¬ dvB n rows d → memR (idL (drvL rows)) 400 M (drvL rows) → derU n rows d (.tup [.agg [.nilsl, .int .i64 0], .bool false]) ∧ memR (idL (drvL rows)) 400 M (drvL rows) := fun h h' => ⟨.inr ⟨h, rfl⟩, h'⟩
 refine cmpI ?_ ?_ <;> (intro h1; conv => whnf)
 ·exact hno (fun h => h1 (by have := h.1.1; omega)) (auto_)
 refine dC (withinR1 (d.src.length : Int) 1 64) (fun _ => ?_) (fun _ => ?_) <;> (conv => whnf)
 case refine_2 => rename_i h2; exact hno (fun h => h2 (by have := h.1.2.1; omega)) (auto_)
 rename_i h2
 refine dC (withinR1 d.div 1 68719476736) (fun _ => ?_) (fun _ => ?_) <;> (conv => whnf)
 case refine_2 => rename_i h3; exact hno (fun h => h3 h.1.2.2) (auto_)
 rename_i h3
 have hed : hedB d := ⟨by omega, by omega, by omega⟩
 refine mkI 0 encI 0 rfl (by dsimp only; omega) ?_
 rw [tN]
 conv => whnf
 refine WPc.loopF tt_ok mx_ok (fun k : Nat => k ≤ d.src.length ∧ ∀ i, i < k → trmB n rows.length d i) (fun k => [(9, .int .i64 (k : Int))]) (fun k => drvS n rows (dvC n rows d k) (dvK rows d k)) (fun k => d.src.length - k) 0 ⟨Nat.zero_le _, fun j hj => absurd hj (Nat.not_lt_zero _)⟩ ?_; conv => whnf
 refine ⟨sI, ?_⟩
 rintro k ⟨hk, ha⟩
 have bC := dvC_b hr k ha
 have bK := dvK_b hr k ha
 have lC := dvC_len n rows d k
 conv => whnf
 refine cmpI ?_ ?_ <;> (intro g1; conv => whnf)
 ·refine nI ?_
  rw [tN]
  conv => whnf
  refine aI ?_
  conv => whnf
  refine aI ?_
  conv => whnf
  refine dC (withinR1 (d.src.getD k 0) (0 - (n : Int)) ((rows.length : Int) - 1)) (fun _ => ?_) (fun _ => ?_) <;> (conv => whnf)
  case refine_2 => rename_i g2; exact hno (fun h => g2 (by have := h.2.1 k (by omega); unfold trmB at this; omega)) (auto_)
  rename_i g2
  refine nI ?_
  rw [tN]
  conv => whnf
  refine dC (withinR1 (d.mult.getD k 0) 1 65536) (fun _ => ?_) (fun _ => ?_) <;> (conv => whnf)
  case refine_2 => rename_i g3; exact hno (fun h => g3 (by have := h.2.1 k (by omega); unfold trmB at this; omega)) (auto_)
  rename_i g3
  have ht : trmB n rows.length d k := ⟨by omega, by omega⟩
  have ha' : ∀ i, i < k + 1 → trmB n rows.length d i := fun i hi => by
   by_cases e : i = k
   ·subst e; exact ht
   ·exact ha i (by omega)
  have bm : 1 ≤ d.mult.getD k 0 ∧ d.mult.getD k 0 ≤ 65536 := ht.2
  refine nI ?_
  rw [tN]
  conv => whnf
  by_cases g6 : d.src.getD k 0 < 0
  ·refine cmpT g6 ?_
   conv => whnf
   have bi := bC (-1 - d.src.getD k 0).toNat
   have h64 : (k : Int) < 64 := by have := hed.2.1; omega
   first | refine dI ?_ | refine drawO (by decide +kernel) ?_
   conv => whnf
   refine nI ?_
   rw [tN]
   conv => whnf
   refine aI ?_
   conv => whnf
   refine nI ?_
   conv => whnf
   refine nI ?_
   rw [tN]
   conv => whnf
   refine aI ?_
   conv => whnf
   refine nI ?_
   conv => whnf
   refine rowSetI _ rfl ?_
   conv => whnf
   repeat' ((first|refine nI ?_|refine aI ?_|refine arU trivial (by omega) ?_|refine arB trivial (by omega) ?_|refine dI ?_|refine dR ?_|refine dP ?_|refine boxP rfl ?_|refine pI _ rfl ?_|refine rowSetI _ rfl ?_|refine tI ?_|refine fI ?_|refine cmpI (fun _ => ?_) (fun _ => ?_)) <;> conv => whnf)
   refine ⟨k + 1, ?_, ⟨by omega, ha'⟩, by dsimp only; omega⟩
   dsimp only
   rw [dvC, if_pos g6, dvK, if_pos g6]
   exact sI
  ·refine cmpF g6 ?_
   conv => whnf
   refine nI ?_
   rw [tN]
   conv => whnf
   refine nI ?_
   conv => whnf
   have hw := hr (d.src.getD k 0).toNat (by omega)
   have h64 : (k : Int) < 64 := by have := hed.2.1; omega
   refine WPc.loopF tt_ok mx_ok (fun j : Nat => j ≤ n) (fun j => [(11, .int .i64 (j : Int))]) (fun j => (10, .box 102 (encRw (rows.getD (d.src.getD k 0).toNat row0))) :: drvS n rows (mixT n (dvC n rows d k) (fun i => (dvC n rows d k).getD i 0 + d.mult.getD k 0 * (rows.getD (d.src.getD k 0).toNat row0).coef.getD i 0) j) (dvK rows d k)) (fun j => n - j) 0 (Nat.zero_le _) ?_; conv => whnf
   refine ⟨?_, ?_⟩
   ·show Sub _ _ _ _ _
    rw [mixT_zero _ lC]
    exact sI
   rintro j hj
   conv => whnf
   refine cmpI ?_ ?_ <;> (intro g7; conv => whnf)
   ·have hjn : j < n := by omega
    have lM := mixT_len n (dvC n rows d k) (fun i => (dvC n rows d k).getD i 0 + d.mult.getD k 0 * (rows.getD (d.src.getD k 0).toNat row0).coef.getD i 0) j
    have bj := bC j
    have cj : numB ((rows.getD (d.src.getD k 0).toNat row0).coef.getD j 0) := hw.2.1 j (by omega)
    have mj := mul_52 cj bm
    first | refine dI ?_ | refine drawO (by decide +kernel) ?_
    conv => whnf
    refine nI ?_
    rw [tN]
    conv => whnf
    rw [mixT_get hjn (Nat.lt_irrefl _)]
    refine nI ?_
    rw [tN]
    conv => whnf
    refine nI ?_
    rw [tN]
    conv => whnf
    refine aI ?_
    conv => whnf
    refine aI ?_
    conv => whnf
    refine nI ?_
    conv => whnf
    refine rowSetI _ rfl ?_
    conv => whnf
    repeat' ((first|refine nI ?_|refine aI ?_|refine arU trivial (by omega) ?_|refine arB trivial (by omega) ?_|refine dI ?_|refine dR ?_|refine dP ?_|refine boxP rfl ?_|refine pI _ rfl ?_|refine rowSetI _ rfl ?_|refine tI ?_|refine fI ?_|refine cmpI (fun _ => ?_) (fun _ => ?_)) <;> conv => whnf)
    refine ⟨j + 1, ?_, by omega, by dsimp only; omega⟩
    dsimp only
    rw [← mixT_up hjn]
    exact sI
   ·obtain rfl : j = n := by omega
    have cK := mul_52 hw.2.2 bm
    first | refine dI ?_ | refine drawO (by decide +kernel) ?_
    conv => whnf
    refine nI ?_
    rw [tN]
    conv => whnf
    refine aI ?_
    conv => whnf
    refine aI ?_
    conv => whnf
    repeat' ((first|refine nI ?_|refine aI ?_|refine arU trivial (by omega) ?_|refine arB trivial (by omega) ?_|refine dI ?_|refine dR ?_|refine dP ?_|refine boxP rfl ?_|refine pI _ rfl ?_|refine rowSetI _ rfl ?_|refine tI ?_|refine fI ?_|refine cmpI (fun _ => ?_) (fun _ => ?_)) <;> conv => whnf)
    refine ⟨k + 1, ?_, ⟨by omega, ha'⟩, by dsimp only; omega⟩
    dsimp only
    rw [dvC, if_neg g6, dvK, if_neg g6, ← mixT_all j (dvC j rows d k)]
    exact sI
 ·obtain rfl : k = d.src.length := by omega
  have h64 : (d.src.length : Int) ≤ 64 := by have := hed.2.1; omega
  have hdv : 1 ≤ d.div ∧ d.div ≤ 68719476736 := hed.2.2
  refine WPc.loopF tt_ok mx_ok (fun j : Nat => j ≤ n ∧ ∀ i, i < j → ((dvC n rows d d.src.length).getD i 0).tmod d.div = 0) (fun j => [(12, .int .i64 (j : Int))]) (fun j => drvS n rows (mixT n (dvC n rows d d.src.length) (fun i => ((dvC n rows d d.src.length).getD i 0).tdiv d.div) j) (dvK rows d d.src.length)) (fun j => n - j) 0 ⟨Nat.zero_le _, fun j hj => absurd hj (Nat.not_lt_zero _)⟩ ?_; conv => whnf
  refine ⟨?_, ?_⟩
  ·show Sub _ _ _ _ _
   rw [mixT_zero _ lC]
   exact sI
  rintro j ⟨hj, hm⟩
  have lM := mixT_len n (dvC n rows d d.src.length) (fun i => ((dvC n rows d d.src.length).getD i 0).tdiv d.div) j
  conv => whnf
  refine cmpI ?_ ?_ <;> (intro g7; conv => whnf)
  ·have hjn : j < n := by omega
   have bj := bC j
   refine dI ?_
   conv => whnf
   refine nI ?_
   rw [tN]
   conv => whnf
   rw [mixT_get hjn (Nat.lt_irrefl _)]
   refine nI ?_
   conv => whnf
   refine cmpI ?_ ?_ <;> (intro g8; conv => whnf)
   ·exact hno (fun h => g8 (h.2.2.1 j hjn)) (auto_)
   have qj := tdiv_b ((dvC n rows d d.src.length).getD j 0) d.div (m := 4503599627370496 * (d.src.length : Int)) (by omega)
   first | refine dI ?_ | refine drawO (by decide +kernel) ?_
   conv => whnf
   refine nI ?_
   rw [tN]
   conv => whnf
   rw [mixT_get hjn (Nat.lt_irrefl _)]
   refine arI (by omega) (by omega) ?_
   conv => whnf
   refine nI ?_
   conv => whnf
   refine rowSetI _ rfl ?_
   conv => whnf
   repeat' ((first|refine nI ?_|refine aI ?_|refine arU trivial (by omega) ?_|refine arB trivial (by omega) ?_|refine dI ?_|refine dR ?_|refine dP ?_|refine boxP rfl ?_|refine pI _ rfl ?_|refine rowSetI _ rfl ?_|refine tI ?_|refine fI ?_|refine cmpI (fun _ => ?_) (fun _ => ?_)) <;> conv => whnf)
   refine ⟨j + 1, ?_, ⟨by omega, fun i hi => ?_⟩, by dsimp only; omega⟩
   ·dsimp only
    rw [← mixT_up hjn]
    exact sI
   ·by_cases e : i = j
    ·subst e; exact Classical.not_not.1 g8
    ·exact hm i (by omega)
  ·obtain rfl : j = n := by omega
   have bK' := bK
   refine Spec.of_pure (n := 5) (downR (dvK rows d d.src.length) d.div (by omega) hdv.1) rfl ?_
   rintro _ rfl
   conv => whnf
   have hR : (⟨mixT j (dvC j rows d d.src.length) (fun i => ((dvC j rows d d.src.length).getD i 0).tdiv d.div) j, flr (dvK rows d d.src.length) d.div⟩ : Row) = dvR j rows d := by
    rw [mixT_all, map_range (fun a => a.tdiv d.div) lC]
    rfl
   have fin : ∀ {M : Mem}, memR (idL (drvL rows)) 400 M (drvL rows) → derU j rows d (.tup [.agg (encRw ⟨mixT j (dvC j rows d d.src.length) (fun i => ((dvC j rows d d.src.length).getD i 0).tdiv d.div) j, flr (dvK rows d d.src.length) d.div⟩), .bool (decide (smlB ⟨mixT j (dvC j rows d d.src.length) (fun i => ((dvC j rows d d.src.length).getD i 0).tdiv d.div) j, flr (dvK rows d d.src.length) d.div⟩))]) ∧ memR (idL (drvL rows)) 400 M (drvL rows) := by
    intro M hM
    refine ⟨.inl ?_, hM⟩
    rw [hR]
    by_cases hs : smlB (dvR j rows d)
    ·rw [decide_eq_true hs]
     exact .inl ⟨⟨hed, ha, hm, hs⟩, rfl⟩
    ·rw [decide_eq_false hs]
     exact .inr ⟨fun h => hs h.2.2.2, _, rfl⟩
   refine drawE ?_
   conv => whnf
   repeat' first
    |exact True.intro
    |exact fin (auto_)
    |(refine And.intro ?_ ?_ <;> conv => whnf)
    |((refine Spec.borrow (n := 5) (SmallR ⟨mixT j (dvC j rows d d.src.length) (fun i => ((dvC j rows d d.src.length).getD i 0).tdiv d.div) j, flr (dvK rows d d.src.length) d.div⟩ (by dsimp only; omega)) rfl (by rintro _ rfl; rfl) ?_; rintro _ rfl; conv => whnf))
def chdB (n : Nat) (nodes : List Nod) : Prop := (∀ i, i < nodes.length → nodV n nodes.length i (nodes.getD i nod0)) ∧ ∀ i, i < nodes.length → 0 < i → parM nodes i nodes.length = 1
instance (n : Nat) (nodes : List Nod) : Decidable (chdB n nodes) := inferInstanceAs (Decidable (_ ∧ _))
theorem childrenR (n : Nat) (nodes : List Nod) (hn : n ≤ 96) (h0 : 1 ≤ nodes.length) (h4 : nodes.length ≤ 400) : PSpec Tryz.prog 103 [.int .i64 n, .sl nod0 encNo nodes] (fun u => u = .bool (decide (chdB n nodes))) := by
 refine PSpec.intro tt_ok mx_ok Tryz.func103 rfl (by decide) ?_; (conv => whnf)
 refine mkI 0 encI 0 rfl (by dsimp only; omega) ?_
 rw [tN, ← prtL_zero]
 conv => whnf
 refine WPc.loopF tt_ok mx_ok (fun k : Nat => k ≤ nodes.length ∧ ∀ i, i < k → nodV n nodes.length i (nodes.getD i nod0)) (fun k => [(6, .int .i64 (k : Int))]) (fun k => [(11, .row 3 0 encI (prtL nodes k))]) (fun k => nodes.length - k) 0 ⟨Nat.zero_le _, fun j hj => absurd hj (Nat.not_lt_zero _)⟩ ?_; conv => whnf
 refine ⟨sI, ?_⟩
 rintro k ⟨hk, ha⟩
 conv => whnf
 refine cmpI ?_ ?_ <;> (intro h1; conv => whnf)
 ·have hlt : k < nodes.length := by omega
  refine nI ?_
  rw [tN]
  conv => whnf
  have no : ¬ nodV n nodes.length k (nodes.getD k nod0) → ¬ chdB n nodes := fun h hh => h (hh.1 k hlt)
  refine aI ?_
  conv => whnf
  refine dC (withinR1 (nodes.getD k nod0).var (-1) ((n : Int) - 1)) (fun _ => ?_) (fun _ => ?_) <;> (conv => whnf)
  case refine_2 => rename_i h2; exact ⟨dec_f (no (by unfold nodV; omega)), rfl⟩
  rename_i h2
  refine cmpI ?_ ?_ <;> (intro h3; conv => whnf)
  ·repeat' ((first|refine nI ?_|refine aI ?_|refine arU trivial (by omega) ?_|refine arB trivial (by omega) ?_|refine dI ?_|refine dR ?_|refine dP ?_|refine boxP rfl ?_|refine pI _ rfl ?_|refine rowSetI _ rfl ?_|refine tI ?_|refine fI ?_|refine cmpI (fun _ => ?_) (fun _ => ?_)) <;> conv => whnf)
   refine ⟨k + 1, ?_, ⟨by omega, fun i hi => ?_⟩, by dsimp only; omega⟩
   ·dsimp only
    rw [prtL_skip h3]
    exact sI
   ·by_cases e : i = k
    ·subst e; exact .inl h3
    ·exact ha i (by omega)
  refine dC (withinR1 (nodes.getD k nod0).at_ 0 1048576) (fun _ => ?_) (fun _ => ?_) <;> (conv => whnf)
  case refine_2 => rename_i h5; exact ⟨dec_f (no (by unfold nodV; omega)), rfl⟩
  rename_i h5
  refine aI ?_
  conv => whnf
  refine aI ?_
  conv => whnf
  refine dC (withinR1 (nodes.getD k nod0).left ((k : Int) + 1) ((nodes.length : Int) - 1)) (fun _ => ?_) (fun _ => ?_) <;> (conv => whnf)
  case refine_2 => rename_i h6; exact ⟨dec_f (no (by unfold nodV; omega)), rfl⟩
  rename_i h6
  refine aI ?_
  conv => whnf
  refine aI ?_
  conv => whnf
  refine dC (withinR1 (nodes.getD k nod0).right ((k : Int) + 1) ((nodes.length : Int) - 1)) (fun _ => ?_) (fun _ => ?_) <;> (conv => whnf)
  case refine_2 => rename_i h7; exact ⟨dec_f (no (by unfold nodV; omega)), rfl⟩
  rename_i h7
  have lP := prtL_len nodes k
  have lQ := bump_len (prtL nodes k) (nodes.getD k nod0).left
  have b1 := parM_b nodes ((nodes.getD k nod0).left.toNat : Nat) k
  have b2 := parM_b nodes ((nodes.getD k nod0).right.toNat : Nat) k
  have g1 := prtL_get (nodes := nodes) (k := k) (i := (nodes.getD k nod0).left.toNat) (by omega)
  have g2 := bump_get (l := prtL nodes k) (c := (nodes.getD k nod0).left) (i := (nodes.getD k nod0).right.toNat) (by omega) (by omega)
  rw [prtL_get (by omega)] at g2
  have g3 : 0 ≤ (bump (prtL nodes k) (nodes.getD k nod0).left).getD (nodes.getD k nod0).right.toNat 0 ∧ (bump (prtL nodes k) (nodes.getD k nod0).left).getD (nodes.getD k nod0).right.toNat 0 ≤ 2 * (k : Int) + 1 := by
   rw [g2]; split <;> omega
  refine nI ?_
  conv => whnf
  refine aI ?_
  conv => whnf
  refine nI ?_
  conv => whnf
  refine rowSetI _ rfl ?_
  conv => whnf
  refine nI ?_
  conv => whnf
  refine arI trivial (by unfold bump at g3; omega) ?_
  conv => whnf
  refine nI ?_
  conv => whnf
  refine rowSetI _ rfl ?_
  conv => whnf
  repeat' ((first|refine nI ?_|refine aI ?_|refine arU trivial (by omega) ?_|refine arB trivial (by omega) ?_|refine dI ?_|refine dR ?_|refine dP ?_|refine boxP rfl ?_|refine pI _ rfl ?_|refine rowSetI _ rfl ?_|refine tI ?_|refine fI ?_|refine cmpI (fun _ => ?_) (fun _ => ?_)) <;> conv => whnf)
  refine ⟨k + 1, ?_, ⟨by omega, fun i hi => ?_⟩, by dsimp only; omega⟩
  ·dsimp only
   rw [← pars_two h3 (by omega) (by omega)]
   exact sI
  ·by_cases e : i = k
   ·subst e; exact .inr ⟨by omega, by omega, by omega, by omega⟩
   ·exact ha i (by omega)
 ·obtain rfl : k = nodes.length := by omega
  have lP := prtL_len nodes nodes.length
  refine WPc.loopF tt_ok mx_ok (fun j : Nat => (1 ≤ j ∧ j ≤ nodes.length) ∧ ∀ i, i < j → 0 < i → parM nodes i nodes.length = 1) (fun j => [(8, .int .i64 (j : Int))]) (fun j => [(11, .row 3 0 encI (prtL nodes nodes.length))]) (fun j => nodes.length - j) 1 ⟨⟨Nat.le_refl _, h0⟩, fun j hj h0 => absurd hj (by omega)⟩ ?_; conv => whnf
  refine ⟨sI, ?_⟩
  rintro j ⟨⟨hj1, hj⟩, hc⟩
  conv => whnf
  refine cmpI ?_ ?_ <;> (intro h2; conv => whnf)
  ·refine nI ?_
   rw [tN]
   conv => whnf
   rw [prtL_get (show j < nodes.length by omega)]
   conv => whnf
   refine cmpI ?_ ?_ <;> (intro h4; conv => whnf)
   ·exact ⟨dec_f (fun hh => h4 (hh.2 j (by omega) (by omega))), rfl⟩
   ·repeat' ((first|refine nI ?_|refine aI ?_|refine arU trivial (by omega) ?_|refine arB trivial (by omega) ?_|refine dI ?_|refine dR ?_|refine dP ?_|refine boxP rfl ?_|refine pI _ rfl ?_|refine rowSetI _ rfl ?_|refine tI ?_|refine fI ?_|refine cmpI (fun _ => ?_) (fun _ => ?_)) <;> conv => whnf)
    refine ⟨j + 1, sI, ⟨by omega, fun i hi h0 => ?_⟩, by dsimp only; omega⟩
    by_cases e : i = j
    ·subst e; exact Classical.not_not.1 h4
    ·exact hc i (by omega) h0
  ·obtain rfl : j = nodes.length := by omega
   exact ⟨dec_t ⟨ha, hc⟩, rfl⟩
theorem onceX {A1 A2 A3 A4 A5 A6 B : Prop} (k : A1 → A2 → A3 → A4 → A5 → A6 → B) (h1 : A1) (h2 : A2) (h3 : A3) (h4 : A4) (h5 : A5) (h6 : A6) : B := k h1 h2 h3 h4 h5 h6
def cloL (n : Nat) (nodes : List Nod) (i : Nat) (a : List Row) : List (Nat × Blk) := [(1000, .row 102 row0 encRw a), (9, .box 164 (encNo (nodes.getD i nod0)))]
theorem closedR (n : Nat) (nodes : List Nod) (hn : n ≤ 96) (ho : okN nodes) (hw : wefB n nodes) : ∀ (m i : Nat) (rows : List Row), i < nodes.length → nodes.length - i ≤ m → rdyR n rows → rows.length + 401 * (nodes.length - i) ≤ 500000 →
  PSpec Tryz.prog 104 [.int .i64 n, .sl nod0 encNo nodes, .int .i64 (i : Int), .sl row0 encRw rows] (fun u => u = .bool (cloB n nodes m i rows))
 |0, i, rows, hi, hm, _, _ => by omega
 |m + 1, i, rows, hi, hm, hr, hl => by
  have hlen := hw.1
  have hlin : (nodes.getD i nod0).lines.length ≤ 400 := Nat.le_trans (linN_at nodes hi) hw.2.2.2
  have hok := (ho.2 i hi).2
  rw [cloB]
  refine PSpec.intro tt_ok mx_ok Tryz.func104 rfl (by decide) ?_; (conv => whnf)
  refine nI ?_
  rw [tN]
  conv => whnf
  refine bldI row0 encRw [] rfl ?_
  conv => whnf
  refine appI rows rfl (by simp only [List.length_nil]; omega) ?_
  conv => whnf
  refine WPc.loopF tt_ok mx_ok (fun x : Nat × List Row => x.1 ≤ (nodes.getD i nod0).lines.length ∧ lnR n rows (nodes.getD i nod0).lines x.1 = some x.2) (fun x => [(21, .top), (23, .top), (11, .int .i64 (x.1 : Int)), (10, .row 1000 x.2.length 2)]) (fun x => cloL n nodes i x.2) (fun x => (nodes.getD i nod0).lines.length - x.1) (0, rows) ⟨Nat.zero_le _, rfl⟩ ?_; conv => whnf
  refine ⟨Sub.by_ [(1000, .old 23), (9, .old 9)] _ 400 rfl (auto_) (auto_), ?_⟩
  rintro ⟨k, a⟩ ⟨hk, ha⟩
  dsimp only at hk ha
  obtain ⟨hra, hla⟩ := lnR_rdy hr ha
  conv => whnf
  refine cmpI ?_ ?_ <;> (intro h1; conv => whnf)
  ·have hlt : k < (nodes.getD i nod0).lines.length := by omega
   refine nI ?_
   rw [tN]
   conv => whnf
   refine Spec.call [(202, .old 1000)] (drvL a) 400 rfl (auto_) (auto_) (deriveR n a ((nodes.getD i nod0).lines.getD k der0) hn hra (by omega) (hok k hlt)) ?_
   rintro u M' ⟨hu, rfl⟩
   rcases hu with ⟨hb, rfl⟩ | ⟨hb, r, rfl⟩
   ·refine ⟨[(1000, .old 202)], [(1000, .row 102 row0 encRw a)], .tup [.agg (encRw (dvR n a ((nodes.getD i nod0).lines.getD k der0))), .bool true], rfl, (auto_), (auto_), ?_⟩
    conv => whnf
    refine bldI row0 encRw [dvR n a ((nodes.getD i nod0).lines.getD k der0)] rfl ?_
    conv => whnf
    refine appI [dvR n a ((nodes.getD i nod0).lines.getD k der0)] rfl lI ?_
    conv => whnf
    repeat' ((first|refine nI ?_|refine aI ?_|refine arU trivial (by omega) ?_|refine arB trivial (by omega) ?_|refine dI ?_|refine dR ?_|refine dP ?_|refine boxP rfl ?_|refine pI _ rfl ?_|refine rowSetI _ rfl ?_|refine tI ?_|refine fI ?_|refine cmpI (fun _ => ?_) (fun _ => ?_)) <;> conv => whnf)
    refine ⟨(k + 1, a ++ [dvR n a ((nodes.getD i nod0).lines.getD k der0)]), ?_, ⟨by dsimp only; omega, ?_⟩, by dsimp only; omega⟩
    ·exact Sub.by_ [(1000, .old 47), (9, .old 9)] _ 400 rfl (auto_) (auto_)
    ·dsimp only
     rw [lnR, ha]
     dsimp only
     rw [if_pos hb]
   ·refine ⟨[(1000, .old 202)], [(1000, .row 102 row0 encRw a)], .tup [.agg (encRw r), .bool false], rfl, (auto_), (auto_), ?_⟩
    conv => whnf
    have hno : lnR n rows (nodes.getD i nod0).lines (nodes.getD i nod0).lines.length = none := by
     refine lnR_none (k := k + 1) ?_ _ (by omega)
     rw [lnR, ha]
     dsimp only
     rw [if_neg hb]
    rw [hno]
    exact ⟨rfl, rfl⟩
  ·obtain rfl : k = (nodes.getD i nod0).lines.length := by omega
   rw [ha]
   dsimp only
   have hv := hw.2.1 i hi
   unfold nodV at hv
   by_cases h2 : (nodes.getD i nod0).var = -1
   ·refine cmpT h2 ?_
    rw [if_pos h2]
    conv => whnf
    refine WPc.loopF tt_ok mx_ok (fun j : Nat => j ≤ a.length ∧ ∀ y, y < j → ¬ conB (a.getD y row0)) (fun j => [(14, .int .i64 (j : Int))]) (fun j => cloL n nodes i a) (fun j => a.length - j) 0 ⟨Nat.zero_le _, fun j hj => absurd hj (Nat.not_lt_zero _)⟩ ?_; conv => whnf
    refine ⟨sI, ?_⟩
    rintro j ⟨hj, hc⟩
    conv => whnf
    refine cmpI ?_ ?_ <;> (intro h3; conv => whnf)
    ·refine nI ?_
     rw [tN]
     conv => whnf
     have hwj := hra j (by omega)
     refine dC (ContradictoryR (a.getD j row0) (by omega)) (fun _ => ?_) (fun _ => ?_) <;> (conv => whnf)
     ·rename_i h4
      exact ⟨dec_t ⟨j, by omega, h4⟩, rfl⟩
     ·rename_i h4
      repeat' ((first|refine nI ?_|refine aI ?_|refine arU trivial (by omega) ?_|refine arB trivial (by omega) ?_|refine dI ?_|refine dR ?_|refine dP ?_|refine boxP rfl ?_|refine pI _ rfl ?_|refine rowSetI _ rfl ?_|refine tI ?_|refine fI ?_|refine cmpI (fun _ => ?_) (fun _ => ?_)) <;> conv => whnf)
      refine ⟨j + 1, sI, ⟨by omega, fun y hy => ?_⟩, by dsimp only; omega⟩
      by_cases e : y = j
      ·subst e; exact h4
      ·exact hc y (by omega)
    ·exact ⟨dec_f (fun ⟨y, h4, h5⟩ => hc y (by omega) h5), rfl⟩
   ·refine cmpF h2 ?_
    rw [if_neg h2]
    conv => whnf
    obtain ⟨v1, v2, v3, v4⟩ := hv.resolve_left h2
    have hL := closedR n nodes hn ho hw m (nodes.getD i nod0).left.toNat (a ++ [splL n (nodes.getD i nod0).var (nodes.getD i nod0).at_]) (by omega) (by omega) (rdy_app hra (spl_rdy (.inr rfl) (by unfold numB; omega))) (by rw [List.length_append]; simp only [List.length_cons, List.length_nil]; omega)
    have hR := closedR n nodes hn ho hw m (nodes.getD i nod0).right.toNat (a ++ [splR n (nodes.getD i nod0).var ((nodes.getD i nod0).at_ + 1)]) (by omega) (by omega) (rdy_app hra (spl_rdy (.inl rfl) (by unfold numB; omega))) (by rw [List.length_append]; simp only [List.length_cons, List.length_nil]; omega)
    rw [Int.toNat_of_nonneg (by omega)] at hL hR
    generalize cloB n nodes m (nodes.getD i nod0).left.toNat (a ++ [splL n (nodes.getD i nod0).var (nodes.getD i nod0).at_]) = bL at hL ⊢
    generalize cloB n nodes m (nodes.getD i nod0).right.toNat (a ++ [splR n (nodes.getD i nod0).var ((nodes.getD i nod0).at_ + 1)]) = bR at hR ⊢
    have sL := splitL n (nodes.getD i nod0) (by omega) v1
    have sR := splitR n (nodes.getD i nod0) (by omega) v1 v2
    apply onceX
    case k =>
     intro o1 o2 o3 o4 o5 o6
     refine drawE ?_
     conv => whnf
     repeat' first
      |exact True.intro
      |(refine And.intro ?_ ?_ <;> conv => whnf)
      |(clear o1 o2 o3 o4 o5 o6; omega)
      |(refine oP sL ?_; conv => whnf)
      |(refine oC sL ?_; conv => whnf)
      |(refine bldI row0 encRw [] rfl ?_; conv => whnf)
      |(refine bldI row0 encRw [splL n (nodes.getD i nod0).var (nodes.getD i nod0).at_] rfl ?_; conv => whnf)
      |(refine leakN ?_; conv => whnf)
      |(refine appI a rfl (by clear o1 o2 o3 o4 o5 o6; simp only [List.length_nil]; omega) ?_; conv => whnf)
      |(refine appI [splL n (nodes.getD i nod0).var (nodes.getD i nod0).at_] rfl (by clear o1 o2 o3 o4 o5 o6; simp only [List.nil_append, List.length_cons, List.length_nil]; omega) ?_; conv => whnf)
      |with_reducible exact o1
      |with_reducible exact o2
      |with_reducible exact o3
      |with_reducible exact o4
      |with_reducible exact o5
      |with_reducible exact o6
      |fail
    all_goals try first
     |exact True.intro
     |exact True
    apply onceX
    case k =>
     intro o1 o2 o3 o4 o5 o6
     refine drawE ?_
     conv => whnf
     repeat' first
      |exact True.intro
      |(refine And.intro ?_ ?_ <;> conv => whnf)
      |(clear o1 o2 o3 o4 o5 o6; omega)
      |(refine oP sR ?_; conv => whnf)
      |(refine oC sR ?_; conv => whnf)
      |(refine bldI row0 encRw [] rfl ?_; conv => whnf)
      |(refine bldI row0 encRw [splR n (nodes.getD i nod0).var ((nodes.getD i nod0).at_ + 1)] rfl ?_; conv => whnf)
      |(refine leakN ?_; conv => whnf)
      |(refine appI a rfl (by clear o1 o2 o3 o4 o5 o6; simp only [List.length_nil]; omega) ?_; conv => whnf)
      |(refine appI [splR n (nodes.getD i nod0).var ((nodes.getD i nod0).at_ + 1)] rfl (by clear o1 o2 o3 o4 o5 o6; simp only [List.nil_append, List.length_cons, List.length_nil]; omega) ?_; conv => whnf)
      |with_reducible exact o1
      |with_reducible exact o2
      |with_reducible exact o3
      |with_reducible exact o4
      |with_reducible exact o5
      |with_reducible exact o6
      |fail
    all_goals try first
     |exact True.intro
     |exact True
    ((refine Spec.borrow (n := 5) (hL) rfl (by rintro _ rfl; rfl) ?_; rintro _ rfl; conv => whnf))
    cases bL with
    |false =>
     conv => whnf
     exact ⟨rfl, rfl⟩
    |true =>
     conv => whnf
     ((refine Spec.borrow (n := 5) (hR) rfl (by rintro _ rfl; rfl) ?_; rintro _ rfl; conv => whnf))
     exact ⟨rfl, rfl⟩
theorem CheckRefutationR (s : LSys) (nodes : List Nod) (hs : okS s) (ho : okN nodes) : PSpec Tryz.prog 58 [.agg (encSy s), .agg [.sl nod0 encNo nodes]] (fun u => u = .bool (decide (refB s nodes))) := by
 have ho1 := ho.1
 refine PSpec.intro tt_ok mx_ok Tryz.func58 rfl (by decide) ?_; (conv => whnf)
 refine boxP rfl ?_
 conv => whnf
 refine boxP rfl ?_
 conv => whnf
 (refine oP (ValidateR s hs) ?_; conv => whnf)
 refine cmpI ?_ ?_ <;> (intro h; conv => whnf)
 ·exact ⟨dec_f (fun hh => h hh.1), rfl⟩
 have h0 : sysE s = 0 := Classical.not_not.1 h
 obtain ⟨a1, a2, a3, a4⟩ := sysE_ok h0
 refine dC (withinR1 (nodes.length : Int) 1 400) (fun _ => ?_) (fun _ => ?_) <;> (conv => whnf)
 case refine_2 => rename_i h2; exact ⟨dec_f (fun hh => h2 (by have := hh.2.1.1; omega)), rfl⟩
 rename_i h2
 refine WPc.loopF tt_ok mx_ok (fun k : Nat => k ≤ nodes.length ∧ linN nodes k ≤ 400) (fun k => [(6, .int .i64 (k : Int)), (5, .int .i64 (linN nodes k : Int))]) (fun _ => []) (fun k => nodes.length - k) 0 ⟨Nat.zero_le _, by simp [linN]⟩ ?_; conv => whnf
 refine ⟨sI, ?_⟩
 rintro k ⟨hk, hb⟩
 conv => whnf
 refine cmpI ?_ ?_ <;> (intro h1; conv => whnf)
 ·have hlt : k < nodes.length := by omega
  have hln := (ho.2 k hlt).1
  have hlin : (linN nodes (k + 1) : Int) = (linN nodes k : Int) + ((nodes.getD k nod0).lines.length : Int) := by rw [linN]; push_cast; rfl
  have hmo := linN_mono nodes (show k + 1 ≤ nodes.length by omega)
  refine nI ?_
  rw [tN]
  conv => whnf
  refine aI ?_
  conv => whnf
  refine cmpI ?_ ?_ <;> (intro h3; conv => whnf)
  ·exact ⟨dec_f (fun hh => by have := hh.2.1.2.2.2; omega), rfl⟩
  ·repeat' ((first|refine nI ?_|refine aI ?_|refine arU trivial (by omega) ?_|refine arB trivial (by omega) ?_|refine dI ?_|refine dR ?_|refine dP ?_|refine boxP rfl ?_|refine pI _ rfl ?_|refine rowSetI _ rfl ?_|refine tI ?_|refine fI ?_|refine cmpI (fun _ => ?_) (fun _ => ?_)) <;> conv => whnf)
   refine ⟨k + 1, ?_, ⟨by omega, by omega⟩, by dsimp only; omega⟩
   dsimp only
   rw [hlin]
   exact sI
 ·obtain rfl : k = nodes.length := by omega
  have ev : ((s.vars.toNat : Nat) : Int) = s.vars := Int.toNat_of_nonneg a1.1
  have hch := childrenR s.vars.toNat nodes (by omega) (by omega) (by omega)
  rw [ev] at hch
  refine dC (hch) (fun _ => ?_) (fun _ => ?_) <;> (conv => whnf)
  case refine_2 => rename_i h3; exact ⟨dec_f (fun hh => h3 ⟨hh.2.1.2.1, hh.2.1.2.2.1⟩), rfl⟩
  rename_i h3
  have hw : wefB s.vars.toNat nodes := ⟨by omega, h3.1, h3.2, by omega⟩
  have hN := closedR s.vars.toNat nodes (by omega) ho hw nodes.length 0 s.rows (by omega) (by omega) (sys_rdy h0) (by omega)
  rw [ev] at hN
  (refine oP (hN) ?_; conv => whnf)
  refine ⟨?_, rfl⟩
  refine avB_ ?_
  cases hc : cloB s.vars.toNat nodes nodes.length 0 s.rows with
  |true => exact (decide_eq_true (p := refB s nodes) ⟨h0, hw, hc⟩).symm
  |false => exact (decide_eq_false (p := refB s nodes) fun h => by have := h.2.2; rw [hc] at this; cases this).symm
end Go.Proofs.YtfoplfpbjajljaaGreatDoor
