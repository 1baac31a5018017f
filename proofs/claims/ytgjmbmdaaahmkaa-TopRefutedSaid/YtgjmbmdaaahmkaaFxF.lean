
/-
  Contracts: negated rows, systems with one row more, the first point in a box, by the program.
-/
import Derived.Test.YtgjmbmdaaahmkaaFxE
import Derived.Test.YtgjmbmdaaahmkaaFvG
set_option linter.unusedVariables false
set_option linter.unusedSimpArgs false
namespace Go.Proofs.Ytgjmbmdaaahmkaa
set_option maxRecDepth 100000
set_option maxHeartbeats 32000000

theorem cloneNF (r : Row) (hl : r.coef.length ≤ 1000000) : Spec Try.prog 34 [.agg (encRw r)] (Mem.ofL []) (fun u M => u = .agg [.row 7 r.coef.length 1, .int .i64 r.const] ∧ M 7 = some (.row 3 0 encI r.coef)) := by
  refine Spec.intro tt_ok mx_ok [] Try.func34 rfl (by decide) ?_
  conv => whnf
  refine boxP rfl ?_
  conv => whnf
  refine mkI 0 encI 0 rfl (by dsimp only; omega) ?_
  rw [Int.toNat_natCast]
  conv => whnf
  refine copI r.coef (by simp) rfl ?_
  conv => whnf
  exact ⟨rfl, rfl⟩
theorem sameNF (s : LSys) (hs : sysE s = 0) : Spec Try.prog 35 [.agg (encSy s)] (Mem.ofL []) (fun u M => u = .agg [.int .i64 s.vars, .row 1000 s.rows.length 2] ∧ M 1000 = some (.row 42 row0 encRw s.rows)) := by
  obtain ⟨a1, a2, a3, a4⟩ := sysE_ok hs
  refine Spec.intro tt_ok mx_ok [] Try.func35 rfl (by decide) ?_
  conv => whnf
  refine boxP rfl ?_
  conv => whnf
  refine WPc.loopF tt_ok mx_ok (fun k : Nat => k ≤ s.rows.length) (fun k => [(12, .int .i64 (k : Int))]) (fun k => sysLb s.vars (s.rows.take k)) (fun k => s.rows.length - k) 0 (Nat.zero_le _) ?_; conv => whnf
  refine ⟨Sub.by_ [(3, .old 3), (1000, .nil 2), (2, .old 2)] _ 400 rfl (auto_) (auto_), ?_⟩
  rintro k hk
  have hlen : (s.rows.take k).length = k := by simp; omega
  conv => whnf
  refine cmpI (fun h1 => ?_) (fun h1 => ?_) <;> conv => whnf
  · have hlt : k < s.rows.length := by omega
    refine needI (by omega) ?_
    rw [Int.toNat_natCast]
    conv => whnf
    first | refine drawI (by decide +kernel) ?_ | refine drawG (by decide +kernel) ?_
    conv => whnf
    have hw := a2 k hlt
    (refine oC (cloneRF (s.rows.getD k row0) (by omega)) ?_; conv => whnf)
    refine bldI row0 encRw [s.rows.getD k row0] rfl ?_
    conv => whnf
    refine leakN ?_
    conv => whnf
    refine appI [s.rows.getD k row0] rfl (by simp only [List.length_cons, List.length_nil]; omega) ?_
    conv => whnf
    repeat' ((first|refine nI ?_|refine aI ?_|refine arU trivial (by omega) ?_|refine arB trivial (by omega) ?_|refine dI ?_|refine dR ?_|refine dP ?_|refine boxP rfl ?_|refine pI _ rfl ?_|refine rowSetI _ rfl ?_|refine tI ?_|refine fI ?_|refine cmpI (fun _ => ?_) (fun _ => ?_)) <;> conv => whnf)
    refine ⟨k + 1, ?_, by omega, by dsimp only; omega⟩
    dsimp only
    rw [List.take_succ_eq_append_getElem hlt, ← getD_elem row0 hlt]
    exact Sub.by_ [(3, .old 3), (1000, .old 21), (2, .old 2)] _ 400 rfl (auto_) (auto_)
  · obtain rfl : k = s.rows.length := by omega
    rw [List.take_length]
    exact ⟨rfl, rfl⟩

/-! ### negated rows -/
def negR (r : Row) : Row := ⟨r.coef.map fun c => -c, -r.const - 1⟩
def negX (r : Row) : Row × Int := if smlB r ∧ smlB (negR r) then (negR r, 0) else (row0, 4)
def rowE (a : Row × Int) : AV := .tup [.agg (encRw a.1), .int .i64 a.2]
theorem negX_ok {r : Row} (h : smlB r) (h2 : smlB (negR r)) : negX r = (negR r, 0) := by unfold negX; rw [if_pos ⟨h, h2⟩]
theorem negX_no {r : Row} (h : ¬ (smlB r ∧ smlB (negR r))) : negX r = (row0, 4) := by unfold negX; rw [if_neg h]
theorem NegateF (r : Row) (hl : r.coef.length ≤ 1000000) : PSpec Try.prog 17 [.agg (encRw r)] (fun u => u = rowE (negX r) ∨ (negX r = (row0, 4) ∧ u = .tup [.agg [.nilsl, .int .i64 0], .int .i64 4])) := by
  refine PSpec.intro tt_ok mx_ok Try.func17 rfl (by decide) ?_; (conv => whnf)
  refine boxP rfl ?_
  conv => whnf
  refine dC (smlF r (by omega)) (fun _ => ?_) (fun _ => ?_) <;> (conv => whnf)
  case refine_2 => rename_i h; exact ⟨.inr ⟨negX_no (fun hh => h hh.1), rfl⟩, rfl⟩
  rename_i h
  refine Spec.news 400 [(1000, .old 7)] [(1000, .row 3 0 encI r.coef)] (.agg [.row 1000 r.coef.length 1, .int .i64 r.const]) (cloneNF r hl) (auto_) rfl (by rintro u M' ⟨rfl, e⟩; refine ⟨⟨?_, trivial⟩, auto_⟩; show blkR _ _ (M' 7) _; rw [e]; rfl) ?_
  conv => whnf
  refine WPc.loopF tt_ok mx_ok (fun j : Nat => j ≤ r.coef.length) (fun j => [(15, .int .i64 (j : Int))]) (fun j => [(2, .box 42 [.nilsl, .int .i64 0]), (4, .box 42 [.row 1000 r.coef.length 1, .int .i64 r.const]), (1000, .row 3 0 encI (mixT r.coef.length r.coef (fun i => 0 - r.coef.getD i 0) j))]) (fun j => r.coef.length - j) 0 (Nat.zero_le _) ?_; conv => whnf
  refine ⟨?_, ?_⟩
  · show Sub _ _ _ _ _
    rw [mixT_zero _ rfl]
    exact (Sub.id_ 400 rfl auto_ auto_)
  rintro j hj
  have lM := mixT_len r.coef.length r.coef (fun i => 0 - r.coef.getD i 0) j
  conv => whnf
  refine cmpI (fun h1 => ?_) (fun h1 => ?_) <;> conv => whnf
  · have hjn : j < r.coef.length := by omega
    have bj : numB (r.coef.getD j 0) := h.1 j hjn
    unfold numB at bj
    first | refine drawI (by decide +kernel) ?_ | refine drawO (by decide +kernel) ?_
    conv => whnf
    refine needI (by omega) ?_
    rw [Int.toNat_natCast]
    conv => whnf
    rw [mixT_get hjn (Nat.lt_irrefl _)]
    refine arI trivial (by omega) ?_
    conv => whnf
    refine needI (by omega) ?_
    conv => whnf
    refine rowSetI _ rfl ?_
    conv => whnf
    repeat' ((first|refine nI ?_|refine aI ?_|refine arU trivial (by omega) ?_|refine arB trivial (by omega) ?_|refine dI ?_|refine dR ?_|refine dP ?_|refine boxP rfl ?_|refine pI _ rfl ?_|refine rowSetI _ rfl ?_|refine tI ?_|refine fI ?_|refine cmpI (fun _ => ?_) (fun _ => ?_)) <;> conv => whnf)
    refine ⟨j + 1, ?_, by omega, by dsimp only; omega⟩
    dsimp only
    rw [← mixT_up hjn]
    exact (Sub.id_ 400 rfl auto_ auto_)
  · obtain rfl : j = r.coef.length := by omega
    have bc := h.2
    unfold numB at bc
    refine arI trivial (by omega) ?_
    conv => whnf
    refine arI trivial (by omega) ?_
    conv => whnf
    have hR : (⟨mixT r.coef.length r.coef (fun i => 0 - r.coef.getD i 0) r.coef.length, 0 - r.const - 1⟩ : Row) = negR r := by
      rw [mixT_all, map_range (fun a => 0 - a) rfl]
      unfold negR
      simp only [Int.zero_sub]
    by_cases h2 : smlB (negR r)
    · have hw := smlF ⟨mixT r.coef.length r.coef (fun i => 0 - r.coef.getD i 0) r.coef.length, 0 - r.const - 1⟩ (by dsimp only; omega)
      rw [decide_eq_true (show smlB _ by rw [hR]; exact h2)] at hw
      (refine Spec.borrow (n := 5) (hw) rfl (by rintro _ rfl; rfl) ?_; rintro _ rfl; conv => whnf)
      refine ⟨.inl ?_, rfl⟩
      rw [negX_ok h h2, ← hR]
      rfl
    · have hw := smlF ⟨mixT r.coef.length r.coef (fun i => 0 - r.coef.getD i 0) r.coef.length, 0 - r.const - 1⟩ (by dsimp only; omega)
      rw [decide_eq_false (show ¬ smlB _ by rw [hR]; exact h2)] at hw
      (refine Spec.borrow (n := 5) (hw) rfl (by rintro _ rfl; rfl) ?_; rintro _ rfl; conv => whnf)
      exact ⟨.inr ⟨negX_no (fun hh => h2 hh.2), rfl⟩, rfl⟩

/-! ### one row more -/
def appS (s : LSys) (r : Row) : LSys := ⟨s.vars, s.rows ++ [r]⟩
/-- the error of a system with one row more -/
def appE (s : LSys) (r : Row) : Int := if sysE s ≠ 0 then sysE s else sysE (appS s r)
def sysA (e : Int) (s : LSys) (u : AV) : Prop := (e = 0 ∧ u = .tup [.agg (encSy s), .int .i64 0]) ∨ (e ≠ 0 ∧ ∃ v, u = .tup [.agg [.int .i64 0, v], .int .i64 e] ∧ (v = .nilsl ∨ v = .sl row0 encRw []))
theorem AppendF (s : LSys) (r : Row) (hs : okS s) (hl : r.coef.length ≤ 1000) : PSpec Try.prog 18 [.agg (encSy s), .agg (encRw r)] (sysA (appE s r) (appS s r)) := by
  refine PSpec.intro tt_ok mx_ok Try.func18 rfl (by decide) ?_; (conv => whnf)
  refine boxP rfl ?_
  conv => whnf
  refine boxP rfl ?_
  conv => whnf
  (refine oP (ValidateF s hs) ?_; conv => whnf)
  refine cmpI (fun h => ?_) (fun h => ?_) <;> conv => whnf
  · have e : appE s r = sysE s := by unfold appE; rw [if_pos h]
    exact ⟨.inr ⟨by rw [e]; exact h, _, by rw [e]; rfl, .inl rfl⟩, rfl⟩
  have h0 : sysE s = 0 := Classical.not_not.1 h
  obtain ⟨a1, a2, a3, a4⟩ := sysE_ok h0
  have e : appE s r = sysE (appS s r) := by unfold appE; rw [if_neg (by omega)]
  refine Spec.news 400 [(1001, .old 1000)] [(1001, .row 42 row0 encRw s.rows)] (.agg [.int .i64 s.vars, .row 1001 s.rows.length 2]) (sameNF s h0) (auto_) rfl (by rintro u M' ⟨rfl, e⟩; refine ⟨⟨?_, trivial⟩, auto_⟩; show blkR _ _ (M' 1000) _; rw [e]; rfl) ?_
  conv => whnf
  first | refine drawI (by decide +kernel) ?_ | refine drawG (by decide +kernel) ?_
  conv => whnf
  (refine oC (cloneRF r hl) ?_; conv => whnf)
  refine bldI row0 encRw [r] rfl ?_
  conv => whnf
  refine leakN ?_
  conv => whnf
  refine appI [r] rfl (by simp only [List.length_cons, List.length_nil]; omega) ?_
  conv => whnf
  have ho : okS (appS s r) := by
    refine ⟨by simp only [appS, List.length_append, List.length_cons, List.length_nil]; omega, fun j hj => ?_⟩
    simp only [appS, List.length_append, List.length_cons, List.length_nil] at hj
    by_cases hj2 : j < s.rows.length
    · have : (appS s r).rows.getD j row0 = s.rows.getD j row0 := by
        simp only [appS]
        rw [gD, List.getElem?_append_left hj2, ← gD]
      rw [this]
      have := a2 j hj2
      omega
    · obtain rfl : j = s.rows.length := by omega
      have : (appS s r).rows.getD s.rows.length row0 = r := by
        simp only [appS]
        rw [gD, List.getElem?_append_right (Nat.le_refl _), Nat.sub_self]
        rfl
      rw [this]
      omega
  (refine Spec.borrow (n := 5) (ValidateF (appS s r) ho) rfl (by rintro _ rfl; rfl) ?_; rintro _ rfl; conv => whnf)
  refine cmpI (fun h2 => ?_) (fun h2 => ?_) <;> conv => whnf
  · exact ⟨.inr ⟨by rw [e]; exact h2, _, by rw [e]; rfl, .inl rfl⟩, rfl⟩
  · exact ⟨.inl ⟨by rw [e]; exact Classical.not_not.1 h2, rfl⟩, rfl⟩
end Go.Proofs.Ytgjmbmdaaahmkaa
