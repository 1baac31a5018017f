
/-
  Contracts: greatest common divisors, division rounded down, copies of rows and systems, rows of a sign, by the program.
-/
import Derived.Test.YtgjmbmdaaahmkaaFxA
set_option linter.unusedVariables false
set_option linter.unusedSimpArgs false
namespace Go.Proofs.Ytgjmbmdaaahmkaa
set_option maxRecDepth 100000
set_option maxHeartbeats 16000000

theorem gcd_step (a b : Int) (hb : b ≠ 0) : Int.gcd a b = Int.gcd b (a.tmod b) := by
  have h := Int.gcd_add_mul_right_right b (a.tmod b) (a.tdiv b)
  have e := Int.mul_tdiv_add_tmod a b
  rw [Int.gcd_comm, ← h]
  congr 1
  rw [Int.mul_comm (a.tdiv b) b]
  omega
theorem floorF (a d : Int) (ha : -9223372036854775807 ≤ a ∧ a ≤ 9223372036854775807) (hd : 1 ≤ d) : PSpec Try.prog 37 [.int .i64 a, .int .i64 d] (fun u => u = .int .i64 (flr a d)) := by
  have hq : -9223372036854775807 ≤ a.tdiv d ∧ a.tdiv d ≤ 9223372036854775807 := by
    have h := Int.natAbs_tdiv_le_natAbs a d
    omega
  refine PSpec.intro tt_ok mx_ok Try.func37 rfl (by decide) ?_; (conv => whnf)
  refine arI (by omega) (by omega) ?_
  conv => whnf
  refine needI (by omega) ?_
  conv => whnf
  refine cmpI (fun h => ?_) (fun h => ?_) <;> conv => whnf
  · refine arI trivial (by omega) ?_
    conv => whnf
    exact ⟨avI (by unfold flr; rw [if_pos h]), rfl⟩
  · exact ⟨avI (by unfold flr; rw [if_neg h]), rfl⟩
theorem gcdF (a b : Int) (ha : 0 ≤ a ∧ a ≤ 9223372036854775807) (hb : 0 ≤ b ∧ b ≤ 9223372036854775807) : PSpec Try.prog 44 [.int .i64 a, .int .i64 b] (fun u => u = .int .i64 (Int.gcd a b : Int)) := by
  refine PSpec.intro tt_ok mx_ok Try.func44 rfl (by decide) ?_; (conv => whnf)
  refine WPc.loopF tt_ok mx_ok (fun x : Int × Int => (0 ≤ x.1 ∧ x.1 ≤ 9223372036854775807) ∧ (0 ≤ x.2 ∧ x.2 ≤ 9223372036854775807) ∧ Int.gcd x.1 x.2 = Int.gcd a b) (fun x => [(0, .int .i64 x.1), (1, .int .i64 x.2)]) (fun _ => []) (fun x => x.2.toNat) (a, b) ⟨ha, hb, rfl⟩ ?_; conv => whnf
  refine ⟨(Sub.id_ 400 rfl auto_ auto_), ?_⟩
  rintro ⟨x, y⟩ ⟨hx, hy, hg⟩
  conv => whnf
  refine cmpI (fun h1 => ?_) (fun h1 => ?_) <;> conv => whnf
  · dsimp only at hx hy hg
    refine drawI (by decide +kernel) ?_
    conv => whnf
    refine needI h1 ?_
    conv => whnf
    have h3 := Int.tmod_nonneg y hx.1
    have h4 := Int.tmod_lt_of_pos x (show 0 < y by omega)
    refine ⟨(y, x.tmod y), (Sub.id_ 400 rfl auto_ auto_), ⟨hy, by dsimp only; omega, ?_⟩, by dsimp only; omega⟩
    dsimp only
    rw [← hg, gcd_step x y h1]
  · have h0 : y = 0 := Classical.not_not.1 h1
    subst h0
    refine ⟨avI ?_, rfl⟩
    dsimp only at hg hx
    rw [← hg, Int.gcd_zero_right]
    omega
/-- the greatest common divisor of a row's coefficients, of the first k -/
def divZ (r : Row) : Nat → Int
  | 0 => 0
  | k + 1 => (Int.gcd (divZ r k) (r.coef.getD k 0) : Int)
theorem divZ_b {r : Row} (hs : allN_ r.coef) : ∀ k, k ≤ r.coef.length → 0 ≤ divZ r k ∧ divZ r k ≤ 68719476736
  | 0, _ => by rw [divZ]; omega
  | k + 1, hk => by
    have ih := divZ_b hs k (by omega)
    have hc : numB (r.coef.getD k 0) := hs k (by omega)
    unfold numB at hc
    rw [divZ]
    by_cases e : r.coef.getD k 0 = 0
    · rw [e, Int.gcd_zero_right]; omega
    · have h := Int.gcd_le_natAbs_right (divZ r k) e
      omega
theorem divisorF (r : Row) (hs : smlB r) (hl : r.coef.length ≤ 140737488355328) : PSpec Try.prog 39 [.agg (encRw r)] (fun u => u = .int .i64 (divZ r r.coef.length)) := by
  refine PSpec.intro tt_ok mx_ok Try.func39 rfl (by decide) ?_; (conv => whnf)
  refine boxP rfl ?_
  conv => whnf
  refine WPc.loopF tt_ok mx_ok (fun k : Nat => k ≤ r.coef.length) (fun k => [(9, .int .i64 (k : Int)), (3, .int .i64 (divZ r k))]) (fun _ => []) (fun k => r.coef.length - k) 0 (Nat.zero_le _) ?_; conv => whnf
  refine ⟨(Sub.id_ 400 rfl auto_ auto_), ?_⟩
  rintro k hk
  have hz := divZ_b hs.1 k (by omega)
  conv => whnf
  refine cmpI (fun h1 => ?_) (fun h1 => ?_) <;> conv => whnf
  · refine needI (by omega) ?_
    rw [Int.toNat_natCast]
    conv => whnf
    have hc : numB (r.coef.getD k 0) := hs.1 k (by omega)
    unfold numB at hc
    refine arI trivial (by omega) ?_
    conv => whnf
    have hG := gcdF (divZ r k) (if 0 - r.coef.getD k 0 > r.coef.getD k 0 then 0 - r.coef.getD k 0 else r.coef.getD k 0) (by omega) (by split <;> omega)
    have e : (Int.gcd (divZ r k) (if 0 - r.coef.getD k 0 > r.coef.getD k 0 then 0 - r.coef.getD k 0 else r.coef.getD k 0) : Int) = divZ r (k + 1) := by
      rw [divZ]
      split
      · rw [Int.zero_sub, Int.gcd_neg]
      · rfl
    rw [e] at hG
    (refine oP (hG) ?_; conv => whnf)
    repeat' ((first|refine nI ?_|refine aI ?_|refine arU trivial (by omega) ?_|refine arB trivial (by omega) ?_|refine dI ?_|refine dR ?_|refine dP ?_|refine boxP rfl ?_|refine pI _ rfl ?_|refine rowSetI _ rfl ?_|refine tI ?_|refine fI ?_|refine cmpI (fun _ => ?_) (fun _ => ?_)) <;> conv => whnf)
    exact ⟨k + 1, (Sub.id_ 400 rfl auto_ auto_), by omega, by dsimp only; omega⟩
  · obtain rfl : k = r.coef.length := by omega
    exact ⟨rfl, rfl⟩
theorem ContradictoryF (r : Row) (hl : r.coef.length ≤ 140737488355328) : PSpec Try.prog 21 [.agg (encRw r)] (fun u => u = .bool (decide (conB r))) := by
  refine PSpec.intro tt_ok mx_ok Try.func21 rfl (by decide) ?_; (conv => whnf)
  refine boxP rfl ?_
  conv => whnf
  refine WPc.loopF tt_ok mx_ok (fun k : Nat => k ≤ r.coef.length ∧ ∀ j, j < k → r.coef.getD j 0 ≤ 0) (fun k => [(8, .int .i64 (k : Int))]) (fun _ => []) (fun k => r.coef.length - k) 0 ⟨Nat.zero_le _, fun j hj => absurd hj (Nat.not_lt_zero _)⟩ ?_; conv => whnf
  refine ⟨(Sub.id_ 400 rfl auto_ auto_), ?_⟩
  rintro k ⟨hk, ha⟩
  conv => whnf
  refine cmpI (fun h1 => ?_) (fun h1 => ?_) <;> conv => whnf
  · refine needI (by omega) ?_
    rw [Int.toNat_natCast]
    conv => whnf
    refine cmpI (fun h2 => ?_) (fun h2 => ?_) <;> conv => whnf
    · exact ⟨dec_f (fun h => by have := h.1 k (by omega); omega), rfl⟩
    · repeat' ((first|refine nI ?_|refine aI ?_|refine arU trivial (by omega) ?_|refine arB trivial (by omega) ?_|refine dI ?_|refine dR ?_|refine dP ?_|refine boxP rfl ?_|refine pI _ rfl ?_|refine rowSetI _ rfl ?_|refine tI ?_|refine fI ?_|refine cmpI (fun _ => ?_) (fun _ => ?_)) <;> conv => whnf)
      refine ⟨k + 1, (Sub.id_ 400 rfl auto_ auto_), ⟨by omega, fun j hj => ?_⟩, by dsimp only; omega⟩
      by_cases e : j = k
      · subst e; omega
      · exact ha j (by omega)
  · obtain rfl : k = r.coef.length := by omega
    refine cmpI (fun h2 => ?_) (fun h2 => ?_) <;> conv => whnf
    · exact ⟨dec_t ⟨ha, h2⟩, rfl⟩
    · exact ⟨dec_f (fun h => h2 h.2), rfl⟩

/-! ### rows with one coefficient -/
theorem signF (n : Nat) (v : Int) (hn : n ≤ 1000) (hv : 0 ≤ v ∧ v < n) : PSpec Try.prog 38 [.int .i64 n, .int .i64 v] (fun u => u = .agg (encRw ⟨(List.replicate n 0).set v.toNat 1, 0⟩)) := by
  refine PSpec.intro tt_ok mx_ok Try.func38 rfl (by decide) ?_; (conv => whnf)
  refine mkI 0 encI 0 rfl (by dsimp only; omega) ?_
  rw [Int.toNat_natCast]
  conv => whnf
  refine needI (by omega) ?_
  conv => whnf
  refine rowSetI 1 rfl ?_
  conv => whnf
  exact ⟨rfl, rfl⟩
theorem atMostF (n : Nat) (v k : Int) (hn : n ≤ 1000) (hv : 0 ≤ v ∧ v < n) : PSpec Try.prog 23 [.int .i64 n, .int .i64 v, .int .i64 k] (fun u => u = .agg (encRw (splL n v k))) := by
  refine PSpec.intro tt_ok mx_ok Try.func23 rfl (by decide) ?_; (conv => whnf)
  refine mkI 0 encI 0 rfl (by dsimp only; omega) ?_
  rw [Int.toNat_natCast]
  conv => whnf
  refine needI (by omega) ?_
  conv => whnf
  refine rowSetI (-1) rfl ?_
  conv => whnf
  exact ⟨rfl, rfl⟩
theorem atLeastF (n : Nat) (v k : Int) (hn : n ≤ 1000) (hv : 0 ≤ v ∧ v < n) (hk : -9223372036854775807 ≤ k ∧ k ≤ 9223372036854775807) : PSpec Try.prog 24 [.int .i64 n, .int .i64 v, .int .i64 k] (fun u => u = .agg (encRw (splR n v k))) := by
  refine PSpec.intro tt_ok mx_ok Try.func24 rfl (by decide) ?_; (conv => whnf)
  (refine oP (signF n v hn hv) ?_; conv => whnf)
  refine arI trivial (by omega) ?_
  conv => whnf
  refine ⟨?_, rfl⟩
  unfold splR encRw
  rw [Int.zero_sub]
  rfl
/-! ### copies -/
theorem cloneRF (r : Row) (hl : r.coef.length ≤ 1000) : PSpec Try.prog 34 [.agg (encRw r)] (fun u => u = .agg (encRw r)) := by
  refine PSpec.intro tt_ok mx_ok Try.func34 rfl (by decide) ?_; (conv => whnf)
  refine boxP rfl ?_
  conv => whnf
  refine mkI 0 encI 0 rfl (by dsimp only; omega) ?_
  rw [Int.toNat_natCast]
  conv => whnf
  refine copI r.coef (by simp) rfl ?_
  conv => whnf
  exact ⟨rfl, rfl⟩
def sysLb (v : Int) (l : List Row) : List (Nat × Blk) := [(3, .box 24 [.int .i64 v, .row 1000 l.length 2]), (1000, .row 42 row0 encRw l), (2, .box 24 [.int .i64 0, .nilsl])]
theorem sameF (s : LSys) (hs : sysE s = 0) : PSpec Try.prog 35 [.agg (encSy s)] (fun u => u = .agg (encSy s)) := by
  obtain ⟨a1, a2, a3, a4⟩ := sysE_ok hs
  refine PSpec.intro tt_ok mx_ok Try.func35 rfl (by decide) ?_; (conv => whnf)
  refine boxP rfl ?_
  conv => whnf
  refine WPc.loopF tt_ok mx_ok (fun k : Nat => k ≤ s.rows.length) (fun k => [(12, .int .i64 (k : Int))]) (fun k => sysLb s.vars (s.rows.take k)) (fun k => s.rows.length - k) 0 (Nat.zero_le _) ?_; conv => whnf
  refine ⟨Sub.by_ [(3, .old 3), (1000, .nil 2), (2, .old 2)] _ 400 rfl (auto_) (auto_), ?_⟩
  rintro k hk
  have hlen : (s.rows.take k).length = k := by simp; omega
  conv => whnf
  refine cmpI (fun h1 => ?_) (fun h1 => ?_) <;> conv => whnf
  · have hlt : k < s.rows.length := by omega
    refine needI (by omega) ?_
    rw [Int.toNat_natCast]
    conv => whnf
    first | refine drawI (by decide +kernel) ?_ | refine drawG (by decide +kernel) ?_
    conv => whnf
    have hw := a2 k hlt
    (refine oC (cloneRF (s.rows.getD k row0) (by omega)) ?_; conv => whnf)
    refine bldI row0 encRw [s.rows.getD k row0] rfl ?_
    conv => whnf
    refine leakN ?_
    conv => whnf
    refine appI [s.rows.getD k row0] rfl (by simp only [List.length_cons, List.length_nil]; omega) ?_
    conv => whnf
    repeat' ((first|refine nI ?_|refine aI ?_|refine arU trivial (by omega) ?_|refine arB trivial (by omega) ?_|refine dI ?_|refine dR ?_|refine dP ?_|refine boxP rfl ?_|refine pI _ rfl ?_|refine rowSetI _ rfl ?_|refine tI ?_|refine fI ?_|refine cmpI (fun _ => ?_) (fun _ => ?_)) <;> conv => whnf)
    refine ⟨k + 1, ?_, by omega, by dsimp only; omega⟩
    dsimp only
    rw [List.take_succ_eq_append_getElem hlt, ← getD_elem row0 hlt]
    exact Sub.by_ [(3, .old 3), (1000, .old 21), (2, .old 2)] _ 400 rfl (auto_) (auto_)
  · obtain rfl : k = s.rows.length := by omega
    rw [List.take_length]
    exact ⟨rfl, rfl⟩
end Go.Proofs.Ytgjmbmdaaahmkaa
