
/-
  Contracts: the solver, and whether a system entails a row, by the program.
-/
import Derived.Test.YtgjmbmdaaahmkaaFxU
import Derived.Test.YtgjmbmdaaahmkaaFxF
set_option linter.unusedVariables false
set_option linter.unusedSimpArgs false
namespace Go.Proofs.Ytgjmbmdaaahmkaa
set_option maxRecDepth 100000
set_option maxHeartbeats 32000000

def b0S (s : LSys) (nodes : Int) : Br := ⟨s.rows, [nodN], 0, (min nodes 400 - 1).toNat, none, false⟩
def outZ : AV := .agg [.int .i64 0, .nilsl, .nilsl]
def slvA (s : LSys) (nodes : Int) (u : AV) : Prop :=
  (sysE s ≠ 0 ∧ u = .tup [outZ, .int .i64 (sysE s)]) ∨
  (sysE s = 0 ∧ nodes ≤ 0 ∧ u = .tup [outZ, .int .i64 0]) ∨
  (sysE s = 0 ∧ 0 < nodes ∧ ((∃ x pc, (solB s nodes).point = some x ∧ PtA (some x) pc ∧ u = .tup [.agg [.int .i64 1, pc, .nilsl], .int .i64 0]) ∨
    ((solB s nodes).point = none ∧ (solB s nodes).gave = true ∧ u = .tup [outZ, .int .i64 0]) ∨
    ((solB s nodes).point = none ∧ (solB s nodes).gave = false ∧ u = .tup [.agg [.int .i64 2, .nilsl, .sl nod0 encNo (solB s nodes).nodes], .int .i64 0])))
theorem SolveF (s : LSys) (nodes : Int) (hs : okS s) : PSpec Try.prog 7 [.agg (encSy s), .int .i64 nodes] (slvA s nodes) := by
  refine PSpec.intro tt_ok mx_ok Try.func7 rfl (by decide) ?_; (conv => whnf)
  refine boxP rfl ?_
  conv => whnf
  (refine oP (ValidateF s hs) ?_; conv => whnf)
  refine cmpI (fun h => ?_) (fun h => ?_) <;> conv => whnf
  · exact ⟨.inl ⟨h, rfl⟩, rfl⟩
  have h0 : sysE s = 0 := Classical.not_not.1 h
  obtain ⟨a1, a2, a3, a4⟩ := sysE_ok h0
  refine cmpI (fun h1 => ?_) (fun h1 => ?_) <;> conv => whnf
  · exact ⟨.inr (.inl ⟨h0, h1, rfl⟩), rfl⟩
  have hq1 : 1 ≤ (if 400 < nodes then 400 else nodes) ∧ (if 400 < nodes then 400 else nodes) ≤ 400 := by split <;> omega
  have hq2 : ((min nodes 400 - 1).toNat : Int) = (if 400 < nodes then 400 else nodes) - 1 := by split <;> omega
  generalize (if 400 < nodes then 400 else nodes) = q at hq1 hq2 ⊢
  obtain ⟨n, hn⟩ : ∃ n : Nat, s.vars = n := ⟨s.vars.toNat, by omega⟩
  have hnn : s.vars.toNat = n := by omega
  have hBI : BrIn n 0 (b0S s nodes) := ⟨rfl, rfl, rfl, rfl, by have := sys_rdy h0; rw [hnn] at this; exact this, Nat.zero_le _, by omega⟩
  have hlft : (b0S s nodes).left < 400 + 1 := by show (min nodes 400 - 1).toNat < 401; omega
  have hW : brW (b0S s nodes) := ⟨by show s.rows.length + (min nodes 400 - 1).toNat ≤ 1600 + 0; omega, by show 1 + (min nodes 400 - 1).toNat ≤ 1000; omega⟩
  have hR := rootF n 400 (b0S s nodes) hBI hlft hW
  have hsol : brB n (400 + 1) (b0S s nodes) 0 = solB s nodes := by unfold solB; rw [hnn]; rfl
  rw [hsol] at hR
  have hR : Spec Try.prog 15 [.ptr 6001 0, .int .i64 0] (Mem.ofL (brL n s.rows [nodN] 0 ((min nodes 400 - 1).toNat : Int) false)) (brR n (solB s nodes)) := hR
  rw [hq2] at hR
  have hO := openF n s.rows [] 0 q false (by simp) (by omega)
  have e1 : ([] : List Nod) ++ [nodN] = [nodN] := rfl
  rw [e1] at hO
  clear hq2
  obtain ⟨c, hc⟩ : ∃ c, c = solB s nodes := ⟨_, rfl⟩
  rw [← hc] at hR
  refine boxL ?_
  conv => whnf
  first | refine drawI (by decide +kernel) ?_ | refine drawG (by decide +kernel) ?_ | refine drawO (by decide +kernel) ?_ | skip
  conv => whnf
  refine needI (by show s.rows.length * 32 ≤ 140737488355328; omega) ?_
  conv => whnf
  refine Spec.call [(6001, .old 22), (6002, .old 30), (6003, .nil 5)] (brL n s.rows [] 0 q false) 400 rfl (auto_) (auto_) hO ?_
  rintro u M' (⟨hl0, rfl, rfl⟩ | ⟨hl0, rfl, rfl⟩)
  · omega
  refine ⟨[(22, .old 6001), (30, .old 6002), (1002, .old 6004), (1003, .old 6005)], [(22, .box 53 (bxC n 1002 s.rows.length 1003 [nodN].length 0 (q - 1) .nilsl false)), (30, .dead), (1002, .row 42 row0 encRw s.rows), (1003, .row 63 nod0 encNo [nodN])], .int .i64 0, rfl, (auto_), rfl, ?_⟩
  conv => whnf
  refine Spec.call [(6001, .old 22), (6002, .old 1002), (6003, .old 1003)] (brL n s.rows [nodN] 0 (q - 1) false) 400 rfl (auto_) (auto_) hR ?_
  rintro u M' ⟨rfl, pc, hpc, rfl⟩
  rcases PtA_cases hpc with ⟨hp, rfl⟩ | ⟨x, hp, hx, rfl⟩ | ⟨ad, hp, rfl⟩
  · cases hgv : c.gave
    · refine ⟨[(22, .old 6001), (1002, .old 6002), (1003, .old 6003), (1005, .old 6005)], [(22, .box 53 (bxS n c.rows 1005 c.nodes.length c.lines c.left .nilsl false)), (1002, .dead), (1003, .dead), (1005, .row 63 nod0 encNo c.nodes)], .tup [], rfl, (auto_), trivial, ?_⟩
      conv => whnf
      exact ⟨.inr (.inr ⟨h0, by omega, .inr (.inr ⟨by rw [← hc]; exact hp, by rw [← hc]; exact hgv, by rw [← hc]; rfl⟩)⟩), rfl⟩
    · refine ⟨[(22, .old 6001), (1002, .old 6002), (1003, .old 6003), (1005, .old 6005)], [(22, .box 53 (bxS n c.rows 1005 c.nodes.length c.lines c.left .nilsl true)), (1002, .dead), (1003, .dead), (1005, .row 63 nod0 encNo c.nodes)], .tup [], rfl, (auto_), trivial, ?_⟩
      conv => whnf
      exact ⟨.inr (.inr ⟨h0, by omega, .inr (.inl ⟨by rw [← hc]; exact hp, by rw [← hc]; exact hgv, rfl⟩)⟩), rfl⟩
  · refine ⟨[(22, .old 6001), (1002, .old 6002), (1003, .old 6003), (1005, .old 6005)], [(22, .box 53 (bxS n c.rows 1005 c.nodes.length c.lines c.left (.sl 0 encI x) c.gave)), (1002, .dead), (1003, .dead), (1005, .row 63 nod0 encNo c.nodes)], .tup [], rfl, (auto_), trivial, ?_⟩
    conv => whnf
    refine needI hx ?_
    conv => whnf
    exact ⟨.inr (.inr ⟨h0, by omega, .inl ⟨x, _, by rw [← hc]; exact hp, .inl ⟨hx, rfl⟩, rfl⟩⟩), rfl⟩
  · refine ⟨[(22, .old 6001), (1002, .old 6002), (1003, .old 6003), (1005, .old 6005)], [(22, .box 53 (bxS n c.rows 1005 c.nodes.length c.lines c.left (.val (.slice (some ad) 0 0)) c.gave)), (1002, .dead), (1003, .dead), (1005, .row 63 nod0 encNo c.nodes)], .tup [], rfl, (auto_), trivial, ?_⟩
    conv => whnf
    exact ⟨.inr (.inr ⟨h0, by omega, .inl ⟨[], _, by rw [← hc]; exact hp, .inr ⟨rfl, ad, rfl⟩, rfl⟩⟩), rfl⟩

/-! ### entailment -/
def entA (s : LSys) (r : Row) (u : AV) : Prop := ∃ k e : Int, u = .tup [.int .i64 k, .int .i64 e] ∧ (e = 0 → k = 1 → ∃ x, satB (appS s (negR r)) x)
theorem EntailsF (s : LSys) (r : Row) (nodes : Int) (hs : okS s) (hr : r.coef.length ≤ 140737488355328) : PSpec Try.prog 9 [.agg (encSy s), .agg (encRw r), .int .i64 nodes] (entA s r) := by
  have no : ∀ (k e : Int), e ≠ 0 → entA s r (.tup [.int .i64 k, .int .i64 e]) := fun k e h => ⟨k, e, rfl, fun h2 => absurd h2 h⟩
  refine PSpec.intro tt_ok mx_ok Try.func9 rfl (by decide) ?_; (conv => whnf)
  refine boxP rfl ?_
  conv => whnf
  refine boxP rfl ?_
  conv => whnf
  (refine oP (ValidateF s hs) ?_; conv => whnf)
  refine cmpI (fun h => ?_) (fun h => ?_) <;> conv => whnf
  · exact ⟨no _ _ h, rfl⟩
  have h0 : sysE s = 0 := Classical.not_not.1 h
  obtain ⟨a1, a2, a3, a4⟩ := sysE_ok h0
  refine cmpI (fun h1 => ?_) (fun h1 => ?_) <;> conv => whnf
  · exact ⟨no _ _ (by decide), rfl⟩
  have hl : (r.coef.length : Int) = s.vars := Classical.not_not.1 h1
  refine Spec.of_pure (n := 5) (NegateF r (by omega)) rfl ?_
  rintro u (rfl | ⟨hx, rfl⟩)
  case inr =>
    conv => whnf
    refine cmpT (by decide) ?_
    conv => whnf
    exact ⟨no _ _ (by decide), rfl⟩
  by_cases hsm : smlB r ∧ smlB (negR r)
  case neg =>
    rw [negX_no hsm]
    conv => whnf
    refine cmpT (by decide) ?_
    conv => whnf
    exact ⟨no _ _ (by decide), rfl⟩
  rw [negX_ok hsm.1 hsm.2]
  conv => whnf
  refine cmpF (fun h => h rfl) ?_
  conv => whnf
  have hnl : (negR r).coef.length = r.coef.length := by simp [negR]
  refine Spec.of_pure (n := 5) (AppendF s (negR r) hs (by omega)) rfl ?_
  rintro u (⟨he, rfl⟩ | ⟨he, v, rfl, rfl | rfl⟩)
  case inr.inl =>
    conv => whnf
    refine cmpT he ?_
    conv => whnf
    exact ⟨no _ _ he, rfl⟩
  case inr.inr =>
    conv => whnf
    refine cmpT he ?_
    conv => whnf
    exact ⟨no _ _ he, rfl⟩
  conv => whnf
  refine cmpF (by decide) ?_
  conv => whnf
  have hsA : sysE (appS s (negR r)) = 0 := by
    unfold appE at he
    rw [if_neg (by omega)] at he
    exact he
  refine Spec.of_pure (n := 5) (SolveF (appS s (negR r)) nodes (okS_valid hsA)) rfl ?_
  rintro u (⟨g1, rfl⟩ | ⟨_, g1, rfl⟩ | ⟨_, g0, ⟨x, pc, g1, g2, rfl⟩ | ⟨g1, g2, rfl⟩ | ⟨g1, g2, rfl⟩⟩)
  · conv => whnf
    exact ⟨no _ _ g1, rfl⟩
  · conv => whnf
    exact ⟨⟨_, _, rfl, fun _ h => absurd h (by decide)⟩, rfl⟩
  · rcases PtA_cases g2 with ⟨hp, rfl⟩ | ⟨y, hp, hx, rfl⟩ | ⟨ad, hp, rfl⟩
    · cases hp
    · conv => whnf
      exact ⟨⟨_, _, rfl, fun _ _ => ⟨x, sol_point hsA g0 g1⟩⟩, rfl⟩
    · conv => whnf
      exact ⟨⟨_, _, rfl, fun _ _ => ⟨x, sol_point hsA g0 g1⟩⟩, rfl⟩
  · conv => whnf
    exact ⟨⟨_, _, rfl, fun _ h => absurd h (by decide)⟩, rfl⟩
  · conv => whnf
    exact ⟨⟨_, _, rfl, fun _ h => absurd h (by decide)⟩, rfl⟩
end Go.Proofs.Ytgjmbmdaaahmkaa
