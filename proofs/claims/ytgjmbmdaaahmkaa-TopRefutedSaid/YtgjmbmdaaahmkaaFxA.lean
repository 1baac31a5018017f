
/-
  Contracts: numbers within bounds, valid systems, values of rows, points that satisfy a system, by the program.
-/
import Derived.Test.YtgjmbmdaaahmkaaFuC
set_option linter.unusedVariables false
set_option linter.unusedSimpArgs false
namespace Go.Proofs.Ytgjmbmdaaahmkaa
set_option maxRecDepth 100000
set_option maxHeartbeats 16000000

/-- a system that memory holds -/
def okS (s : LSys) : Prop := s.rows.length ≤ 140737488355328 ∧ ∀ j, j < s.rows.length → (s.rows.getD j row0).coef.length ≤ 140737488355328
theorem okS_valid {s : LSys} (h : sysE s = 0) : okS s := by
  obtain ⟨h1, h2, h3, _⟩ := sysE_ok h
  exact ⟨by omega, fun j hj => by have := h2 j hj; omega⟩
theorem withinF (n : Int) : PSpec Try.prog 36 [.int .i64 n] (fun u => u = .bool (decide (numB n))) := by
  refine PSpec.intro tt_ok mx_ok Try.func36 rfl (by decide) ?_; (conv => whnf)
  refine cmpI (fun h => ?_) (fun h => ?_) <;> conv => whnf
  · refine cmpI (fun h2 => ?_) (fun h2 => ?_) <;> conv => whnf
    · exact ⟨dec_t ⟨h, h2⟩, rfl⟩
    · exact ⟨dec_f (fun hh => h2 hh.2), rfl⟩
  · exact ⟨dec_f (fun hh => h hh.1), rfl⟩
theorem smlF (r : Row) (hl : r.coef.length ≤ 140737488355328) : PSpec Try.prog 19 [.agg (encRw r)] (fun u => u = .bool (decide (smlB r))) := by
  refine PSpec.intro tt_ok mx_ok Try.func19 rfl (by decide) ?_; (conv => whnf)
  refine boxP rfl ?_
  conv => whnf
  refine WPc.loopF tt_ok mx_ok (fun k : Nat => k ≤ r.coef.length ∧ ∀ j, j < k → numB (r.coef.getD j 0)) (fun k => [(8, .int .i64 (k : Int))]) (fun _ => []) (fun k => r.coef.length - k) 0 ⟨Nat.zero_le _, fun j hj => absurd hj (Nat.not_lt_zero _)⟩ ?_; conv => whnf
  refine ⟨(Sub.id_ 400 rfl auto_ auto_), ?_⟩
  rintro k ⟨hk, ha⟩
  conv => whnf
  refine cmpI (fun h1 => ?_) (fun h1 => ?_) <;> conv => whnf
  · refine needI (by omega) ?_
    rw [Int.toNat_natCast]
    conv => whnf
    refine dC (withinF (r.coef.getD k 0)) (fun _ => ?_) (fun _ => ?_) <;> (conv => whnf)
    · rename_i h2
      repeat' ((first|refine nI ?_|refine aI ?_|refine arU trivial (by omega) ?_|refine arB trivial (by omega) ?_|refine dI ?_|refine dR ?_|refine dP ?_|refine boxP rfl ?_|refine pI _ rfl ?_|refine rowSetI _ rfl ?_|refine tI ?_|refine fI ?_|refine cmpI (fun _ => ?_) (fun _ => ?_)) <;> conv => whnf)
      refine ⟨k + 1, (Sub.id_ 400 rfl auto_ auto_), ⟨by omega, fun j hj => ?_⟩, by dsimp only; omega⟩
      by_cases e : j = k
      · subst e; exact h2
      · exact ha j (by omega)
    · rename_i h2
      exact ⟨dec_f (fun h => h2 (h.1 k (by omega))), rfl⟩
  · obtain rfl : k = r.coef.length := by omega
    by_cases h2 : numB r.const
    · have hw := withinF r.const
      rw [decide_eq_true h2] at hw
      (refine oP (hw) ?_; conv => whnf)
      exact ⟨dec_t ⟨ha, h2⟩, rfl⟩
    · have hw := withinF r.const
      rw [decide_eq_false h2] at hw
      (refine oP (hw) ?_; conv => whnf)
      exact ⟨dec_f (fun h => h2 h.2), rfl⟩
theorem sysE_a {s : LSys} (h : s.vars < 0 ∨ 96 < s.vars) : sysE s = 1 := by unfold sysE; rw [if_pos h]
theorem sysE_b {s : LSys} (h : ¬ widB s) : sysE s = 1 := by
  unfold sysE
  by_cases h0 : s.vars < 0 ∨ 96 < s.vars
  · rw [if_pos h0]
  · rw [if_neg h0, if_pos h]
theorem sysE_c {s : LSys} (h0 : ¬ (s.vars < 0 ∨ 96 < s.vars)) (h1 : widB s) (h : 192 < s.rows.length) : sysE s = 4 := by unfold sysE; rw [if_neg h0, if_neg (fun x => x h1), if_pos h]
theorem sysE_d {s : LSys} (h0 : ¬ (s.vars < 0 ∨ 96 < s.vars)) (h1 : widB s) (h2 : ¬ smlR s.rows) : sysE s = 4 := by
  unfold sysE
  rw [if_neg h0, if_neg (fun x => x h1)]
  by_cases h3 : 192 < s.rows.length
  · rw [if_pos h3]
  · rw [if_neg h3, if_pos h2]
theorem ValidateF (s : LSys) (hs : okS s) : PSpec Try.prog 10 [.agg (encSy s)] (fun u => u = .int .i64 (sysE s)) := by
  have hs1 := hs.1
  refine PSpec.intro tt_ok mx_ok Try.func10 rfl (by decide) ?_; (conv => whnf)
  refine boxP rfl ?_
  conv => whnf
  refine cmpI (fun h => ?_) (fun h => ?_) <;> conv => whnf
  · exact ⟨avI (sysE_a (.inl h)).symm, rfl⟩
  refine cmpI (fun h' => ?_) (fun h' => ?_) <;> conv => whnf
  · exact ⟨avI (sysE_a (.inr h')).symm, rfl⟩
  have h0 : ¬ (s.vars < 0 ∨ 96 < s.vars) := by omega
  refine WPc.loopF tt_ok mx_ok (fun k : Nat => k ≤ s.rows.length ∧ ∀ j, j < k → ((s.rows.getD j row0).coef.length : Int) = s.vars) (fun k => [(18, .int .i64 (k : Int))]) (fun _ => []) (fun k => s.rows.length - k) 0 ⟨Nat.zero_le _, fun j hj => absurd hj (Nat.not_lt_zero _)⟩ ?_; conv => whnf
  refine ⟨(Sub.id_ 400 rfl auto_ auto_), ?_⟩
  rintro k ⟨hk, ha⟩
  conv => whnf
  refine cmpI (fun h1 => ?_) (fun h1 => ?_) <;> conv => whnf
  · refine needI (by omega) ?_
    rw [Int.toNat_natCast]
    conv => whnf
    have hc := hs.2 k (by omega)
    refine cmpI (fun h2 => ?_) (fun h2 => ?_) <;> conv => whnf
    · exact ⟨avI (sysE_b fun hw => h2 (hw k (by omega))).symm, rfl⟩
    · repeat' ((first|refine nI ?_|refine aI ?_|refine arU trivial (by omega) ?_|refine arB trivial (by omega) ?_|refine dI ?_|refine dR ?_|refine dP ?_|refine boxP rfl ?_|refine pI _ rfl ?_|refine rowSetI _ rfl ?_|refine tI ?_|refine fI ?_|refine cmpI (fun _ => ?_) (fun _ => ?_)) <;> conv => whnf)
      refine ⟨k + 1, (Sub.id_ 400 rfl auto_ auto_), ⟨by omega, fun j hj => ?_⟩, by dsimp only; omega⟩
      by_cases e : j = k
      · subst e; exact Classical.not_not.1 h2
      · exact ha j (by omega)
  · obtain rfl : k = s.rows.length := by omega
    have hw : widB s := ha
    refine cmpI (fun h2 => ?_) (fun h2 => ?_) <;> conv => whnf
    · exact ⟨avI (sysE_c h0 hw (by omega)).symm, rfl⟩
    refine WPc.loopF tt_ok mx_ok (fun k : Nat => k ≤ s.rows.length ∧ ∀ j, j < k → smlB (s.rows.getD j row0)) (fun k => [(36, .int .i64 (k : Int))]) (fun _ => []) (fun k => s.rows.length - k) 0 ⟨Nat.zero_le _, fun j hj => absurd hj (Nat.not_lt_zero _)⟩ ?_; conv => whnf
    refine ⟨(Sub.id_ 400 rfl auto_ auto_), ?_⟩
    rintro k ⟨hk, hb⟩
    conv => whnf
    refine cmpI (fun h1 => ?_) (fun h1 => ?_) <;> conv => whnf
    · refine needI (by omega) ?_
      rw [Int.toNat_natCast]
      conv => whnf
      have hc := hs.2 k (by omega)
      refine dC (smlF (s.rows.getD k row0) hc) (fun _ => ?_) (fun _ => ?_) <;> (conv => whnf)
      · rename_i h3
        repeat' ((first|refine nI ?_|refine aI ?_|refine arU trivial (by omega) ?_|refine arB trivial (by omega) ?_|refine dI ?_|refine dR ?_|refine dP ?_|refine boxP rfl ?_|refine pI _ rfl ?_|refine rowSetI _ rfl ?_|refine tI ?_|refine fI ?_|refine cmpI (fun _ => ?_) (fun _ => ?_)) <;> conv => whnf)
        refine ⟨k + 1, (Sub.id_ 400 rfl auto_ auto_), ⟨by omega, fun j hj => ?_⟩, by dsimp only; omega⟩
        by_cases e : j = k
        · subst e; exact h3
        · exact hb j (by omega)
      · rename_i h3
        exact ⟨avI (sysE_d h0 hw (fun hh => h3 (hh k (by omega)))).symm, rfl⟩
    · obtain rfl : k = s.rows.length := by omega
      exact ⟨avI (sysE_mk (by omega) hw (by omega) hb).symm, rfl⟩
theorem onPointF (x : List Int) (hl : x.length ≤ 140737488355328) : PSpec Try.prog 13 [.sl 0 encI x] (fun u => u = .bool (decide (pntB x))) := by
  refine PSpec.intro tt_ok mx_ok Try.func13 rfl (by decide) ?_; (conv => whnf)
  refine WPc.loopF tt_ok mx_ok (fun k : Nat => k ≤ x.length ∧ ∀ j, j < k → 0 ≤ x.getD j 0 ∧ x.getD j 0 ≤ 1048576) (fun k => [(7, .int .i64 (k : Int))]) (fun _ => []) (fun k => x.length - k) 0 ⟨Nat.zero_le _, fun j hj => absurd hj (Nat.not_lt_zero _)⟩ ?_; conv => whnf
  refine ⟨(Sub.id_ 400 rfl auto_ auto_), ?_⟩
  rintro k ⟨hk, ha⟩
  conv => whnf
  refine cmpI (fun h1 => ?_) (fun h1 => ?_) <;> conv => whnf
  · refine needI (by omega) ?_
    rw [Int.toNat_natCast]
    conv => whnf
    refine cmpI (fun h2 => ?_) (fun h2 => ?_) <;> conv => whnf
    · exact ⟨dec_f (fun h => by have := h k (by omega); omega), rfl⟩
    refine cmpI (fun h3 => ?_) (fun h3 => ?_) <;> conv => whnf
    · exact ⟨dec_f (fun h => by have := h k (by omega); omega), rfl⟩
    repeat' ((first|refine nI ?_|refine aI ?_|refine arU trivial (by omega) ?_|refine arB trivial (by omega) ?_|refine dI ?_|refine dR ?_|refine dP ?_|refine boxP rfl ?_|refine pI _ rfl ?_|refine rowSetI _ rfl ?_|refine tI ?_|refine fI ?_|refine cmpI (fun _ => ?_) (fun _ => ?_)) <;> conv => whnf)
    refine ⟨k + 1, (Sub.id_ 400 rfl auto_ auto_), ⟨by omega, fun j hj => ?_⟩, by dsimp only; omega⟩
    by_cases e : j = k
    · subst e; omega
    · exact ha j (by omega)
  · obtain rfl : k = x.length := by omega
    exact ⟨dec_t ha, rfl⟩

/-! ### values -/
def valP (r : Row) (x : List Int) : Prop := r.coef.length = x.length ∧ x.length ≤ 96 ∧ pntB x
instance (r : Row) (x : List Int) : Decidable (valP r x) := inferInstanceAs (Decidable (_ ∧ _))
def valX (r : Row) (x : List Int) : Int × Int := if valP r x then (if smlB r then (valR r x, 0) else (0, 4)) else (0, 1)
def valA2 (a : Int × Int) : AV := .tup [.int .i64 a.1, .int .i64 a.2]
theorem valX_1 {r : Row} {x : List Int} (h : ¬ valP r x) : valX r x = (0, 1) := by unfold valX; rw [if_neg h]
theorem valX_4 {r : Row} {x : List Int} (h : valP r x) (h2 : ¬ smlB r) : valX r x = (0, 4) := by unfold valX; rw [if_pos h, if_neg h2]
theorem valX_0 {r : Row} {x : List Int} (h : valP r x) (h2 : smlB r) : valX r x = (valR r x, 0) := by unfold valX; rw [if_pos h, if_pos h2]
theorem ValueF (r : Row) (x : List Int) (hr : r.coef.length ≤ 140737488355328) (hx : x.length ≤ 140737488355328) :
    PSpec Try.prog 14 [.agg (encRw r), .sl 0 encI x] (fun u => u = valA2 (valX r x)) := by
  refine PSpec.intro tt_ok mx_ok Try.func14 rfl (by decide) ?_; (conv => whnf)
  refine boxP rfl ?_
  conv => whnf
  refine cmpI (fun h => ?_) (fun h => ?_) <;> conv => whnf
  · exact ⟨by rw [valX_1 (fun hh => h (by have := hh.1; omega))]; rfl, rfl⟩
  refine cmpI (fun h' => ?_) (fun h' => ?_) <;> conv => whnf
  · exact ⟨by rw [valX_1 (fun hh => by have := hh.2.1; omega)]; rfl, rfl⟩
  refine dC (onPointF x hx) (fun _ => ?_) (fun _ => ?_) <;> (conv => whnf)
  case refine_2 => rename_i h2; exact ⟨by rw [valX_1 (fun hh => h2 hh.2.2)]; rfl, rfl⟩
  rename_i h2
  have hp : valP r x := ⟨by omega, by omega, h2⟩
  refine dC (smlF r hr) (fun _ => ?_) (fun _ => ?_) <;> (conv => whnf)
  case refine_2 => rename_i h3; exact ⟨by rw [valX_4 hp h3]; rfl, rfl⟩
  rename_i h3
  refine WPc.loopF tt_ok mx_ok (fun k : Nat => k ≤ r.coef.length) (fun k => [(33, .int .i64 (k : Int)), (6, .int .i64 (r.const + lftK r.coef x k))]) (fun _ => []) (fun k => r.coef.length - k) 0 (Nat.zero_le _) ?_; conv => whnf
  refine ⟨?_, ?_⟩
  · show Sub _ _ _ _ _
    rw [lftK, Int.add_zero]
    exact (Sub.id_ 400 rfl auto_ auto_)
  rintro k hk
  have hc := h3.2
  unfold numB at hc
  have hb := lftK_b h3.1 h2 (by omega) k (by omega)
  conv => whnf
  refine cmpI (fun h1 => ?_) (fun h1 => ?_) <;> conv => whnf
  · refine needI (by omega) ?_
    rw [Int.toNat_natCast]
    conv => whnf
    refine needI (by omega) ?_
    rw [Int.toNat_natCast]
    conv => whnf
    have hm := mul_36 (h3.1 k (by omega)) (h2 k (by omega))
    refine arI trivial (by omega) ?_
    conv => whnf
    refine arI trivial (by omega) ?_
    conv => whnf
    repeat' ((first|refine nI ?_|refine aI ?_|refine arU trivial (by omega) ?_|refine arB trivial (by omega) ?_|refine dI ?_|refine dR ?_|refine dP ?_|refine boxP rfl ?_|refine pI _ rfl ?_|refine rowSetI _ rfl ?_|refine tI ?_|refine fI ?_|refine cmpI (fun _ => ?_) (fun _ => ?_)) <;> conv => whnf)
    refine ⟨k + 1, ?_, by omega, by dsimp only; omega⟩
    dsimp only
    rw [lftK, ← Int.add_assoc]
    exact (Sub.id_ 400 rfl auto_ auto_)
  · obtain rfl : k = r.coef.length := by omega
    exact ⟨by rw [valX_0 hp h3]; rfl, rfl⟩
theorem SatisfiesF (s : LSys) (x : List Int) (hs : okS s) (hx : x.length ≤ 140737488355328) : PSpec Try.prog 6 [.agg (encSy s), .sl 0 encI x] (fun u => u = .bool (decide (satB s x))) := by
  refine PSpec.intro tt_ok mx_ok Try.func6 rfl (by decide) ?_; (conv => whnf)
  refine boxP rfl ?_
  conv => whnf
  (refine oP (ValidateF s hs) ?_; conv => whnf)
  refine cmpI (fun h => ?_) (fun h => ?_) <;> conv => whnf
  · exact ⟨dec_f (fun hh => h hh.1), rfl⟩
  have h0 : sysE s = 0 := Classical.not_not.1 h
  obtain ⟨a1, a2, a3, a4⟩ := sysE_ok h0
  refine cmpI (fun h' => ?_) (fun h' => ?_) <;> conv => whnf
  · exact ⟨dec_f (fun hh => h' hh.2.1), rfl⟩
  have hl : (x.length : Int) = s.vars := Classical.not_not.1 h'
  refine dC (onPointF x hx) (fun _ => ?_) (fun _ => ?_) <;> (conv => whnf)
  case refine_2 => rename_i h2; exact ⟨dec_f (fun hh => h2 hh.2.2.1), rfl⟩
  rename_i h2
  refine WPc.loopF tt_ok mx_ok (fun k : Nat => k ≤ s.rows.length ∧ ∀ j, j < k → 0 ≤ valR (s.rows.getD j row0) x) (fun k => [(27, .int .i64 (k : Int))]) (fun _ => []) (fun k => s.rows.length - k) 0 ⟨Nat.zero_le _, fun j hj => absurd hj (Nat.not_lt_zero _)⟩ ?_; conv => whnf
  refine ⟨(Sub.id_ 400 rfl auto_ auto_), ?_⟩
  rintro k ⟨hk, ha⟩
  conv => whnf
  refine cmpI (fun h1 => ?_) (fun h1 => ?_) <;> conv => whnf
  · refine needI (by omega) ?_
    rw [Int.toNat_natCast]
    conv => whnf
    have hc := hs.2 k (by omega)
    have hw := a2 k (by omega)
    have hv := valX_0 (r := s.rows.getD k row0) (x := x) ⟨by omega, by omega, h2⟩ (a4 k (by omega))
    have hV := ValueF (s.rows.getD k row0) x hc hx
    rw [hv] at hV
    (refine oP (hV) ?_; conv => whnf)
    refine cmpF (by omega) ?_
    conv => whnf
    refine cmpI (fun h3 => ?_) (fun h3 => ?_) <;> conv => whnf
    · exact ⟨dec_f (fun hh => by have := hh.2.2.2 k (by omega); omega), rfl⟩
    repeat' ((first|refine nI ?_|refine aI ?_|refine arU trivial (by omega) ?_|refine arB trivial (by omega) ?_|refine dI ?_|refine dR ?_|refine dP ?_|refine boxP rfl ?_|refine pI _ rfl ?_|refine rowSetI _ rfl ?_|refine tI ?_|refine fI ?_|refine cmpI (fun _ => ?_) (fun _ => ?_)) <;> conv => whnf)
    refine ⟨k + 1, (Sub.id_ 400 rfl auto_ auto_), ⟨by omega, fun j hj => ?_⟩, by dsimp only; omega⟩
    by_cases e : j = k
    · subst e; omega
    · exact ha j (by omega)
  · obtain rfl : k = s.rows.length := by omega
    exact ⟨dec_t ⟨h0, hl, h2, ha⟩, rfl⟩
end Go.Proofs.Ytgjmbmdaaahmkaa
