
/-
  Contracts: which refutations are correct, by the program.
-/
import Derived.Test.YtgjmbmdaaahmkaaFxD
set_option linter.unusedVariables false
set_option linter.unusedSimpArgs false
namespace Go.Proofs.Ytgjmbmdaaahmkaa
set_option maxRecDepth 100000
set_option maxHeartbeats 32000000

def chkN (n : Nat) (nodes : List Nod) (rows : List Row) : List (Nat × Blk) := [(7001, .box 47 [.int .i64 n, .sl nod0 encNo nodes, .row 7003 rows.length 2]), (7002, .dead), (7003, .row 42 row0 encRw rows)]
/-- what a node leaves: the rows, and some more behind them -/
def nodR (n : Nat) (nodes : List Nod) (rows : List Row) (b : Bool) (u : AV) (M : Mem) : Prop := u = .bool b ∧ ∃ ex, ex.length ≤ 400 ∧ M = Mem.ofL (chkN n nodes (rows ++ ex))
theorem childF (n : Nat) (nodes : List Nod) (rows : List Row) (i : Int) (sp : Row) (b : Bool) (hl : rows.length ≤ 1000000)
    (h : Spec Try.prog 12 [.ptr 7001 0, .int .i64 i] (Mem.ofL (chkL n nodes (rows ++ [sp]))) (nodR n nodes (rows ++ [sp]) b)) :
    Spec Try.prog 22 [.ptr 7001 0, .int .i64 i, .agg (encRw sp)] (Mem.ofL (chkL n nodes rows)) (fun u M => u = .bool b ∧ M = Mem.ofL (chkN n nodes rows)) := by
  refine Spec.renorm 400 (R := fun u M => u = .bool b ∧ memR [(7001, .old 7001), (7002, .old 7002), (7003, .old 33)] 400 M (chkN n nodes rows)) ?_ ?_
  case refine_2 =>
    rintro u M' ⟨rfl, hM⟩
    exact ⟨_, _, .bool b, rfl, hM, rfl, rfl, rfl⟩
  refine Spec.intro tt_ok mx_ok (chkL n nodes rows) Try.func22 rfl (by decide) ?_
  conv => whnf
  refine boxP rfl ?_
  conv => whnf
  first | refine drawI (by decide +kernel) ?_ | refine drawG (by decide +kernel) ?_
  conv => whnf
  refine bldI row0 encRw [sp] rfl ?_
  conv => whnf
  refine leakN ?_
  conv => whnf
  refine appI [sp] rfl (by simp only [List.length_cons, List.length_nil]; omega) ?_
  conv => whnf
  refine Spec.call [(7001, .old 7001), (7002, .old 21)] (chkL n nodes (rows ++ [sp])) 400 rfl (auto_) (auto_) h ?_
  rintro u M' ⟨rfl, ex, hex, rfl⟩
  refine ⟨[(7001, .old 7001), (21, .old 7002), (1000, .old 7003)], [(7001, .box 47 [.int .i64 n, .sl nod0 encNo nodes, .row 1000 (rows ++ [sp] ++ ex).length 2]), (21, .dead), (1000, .row 42 row0 encRw (rows ++ [sp] ++ ex))], .bool b, rfl, (auto_), rfl, ?_⟩
  conv => whnf
  refine sliceC ?_
  conv => whnf
  refine needI (by simp only [List.length_append]; omega) ?_
  rw [Int.toNat_natCast, show (rows ++ [sp] ++ ex).take rows.length = rows by rw [List.append_assoc, List.take_left]]
  conv => whnf
  exact ⟨rfl, auto_⟩

/-- the checker's memory while a node is walked -/
def nodL (n : Nat) (nodes : List Nod) (i : Nat) (rows : List Row) : List (Nat × Blk) := [(7001, .box 47 [.int .i64 n, .sl nod0 encNo nodes, .row 1000 rows.length 2]), (7002, .dead), (1000, .row 42 row0 encRw rows), (5, .box 63 (encNo (nodes.getD i nod0)))]
theorem lnR_more {n : Nat} {rows : List Row} {l : List Der} : ∀ {k : Nat} {a : List Row}, lnR n rows l k = some a → ∃ ex, ex.length = k ∧ a = rows ++ ex
  | 0, a, h => by cases h; exact ⟨[], rfl, by simp⟩
  | k + 1, a, h => by
    rw [lnR] at h
    cases hk : lnR n rows l k with
    | none => rw [hk] at h; cases h
    | some b =>
      rw [hk] at h
      dsimp only at h
      obtain ⟨ex, h1, rfl⟩ := lnR_more hk
      split at h
      · cases h
        exact ⟨ex ++ [dvR n (rows ++ ex) (l.getD k der0)], by simp [h1], by simp⟩
      · cases h
theorem lnR_none {n : Nat} {rows : List Row} {l : List Der} {k : Nat} (h : lnR n rows l k = none) : ∀ m, k ≤ m → lnR n rows l m = none := by
  intro m hm
  induction m with
  | zero => rw [Nat.le_zero.1 hm] at h; exact h
  | succ m ih =>
    by_cases e : k = m + 1
    · rw [← e]; exact h
    · rw [lnR, ih (by omega)]
theorem nodeF (n : Nat) (nodes : List Nod) (hn : n ≤ 96) (ho : okN nodes) (hw : wefB n nodes) : ∀ (m i : Nat) (rows : List Row), i < nodes.length → nodes.length - i ≤ m → rdyR n rows → rows.length + 401 * (nodes.length - i) ≤ 500000 →
    Spec Try.prog 12 [.ptr 7001 0, .int .i64 (i : Int)] (Mem.ofL (chkL n nodes rows)) (nodR n nodes rows (cloB n nodes m i rows))
  | 0, i, rows, hi, hm, _, _ => by omega
  | m + 1, i, rows, hi, hm, hr, hl => by
    have hlen := hw.1
    have hlin : (nodes.getD i nod0).lines.length ≤ 400 := Nat.le_trans (linN_at nodes hi) hw.2.2.2
    have hok := (ho.2 i hi).2
    refine Spec.renorm 400 (R := fun u M => u = .bool (cloB n nodes (m + 1) i rows) ∧ ∃ ex, ex.length ≤ 400 ∧ (memR [(7001, .old 7001), (7002, .old 7002), (7003, .old 1000)] 400 M (chkN n nodes (rows ++ ex)) ∨
      memR [(7001, .old 7001), (7002, .old 7002), (7003, .old 1001)] 400 M (chkN n nodes (rows ++ ex)) ∨ memR [(7001, .old 7001), (7002, .old 7002), (7003, .old 1002)] 400 M (chkN n nodes (rows ++ ex)))) ?_ ?_
    case refine_2 =>
      rintro u M' ⟨rfl, ex, hex, hM | hM | hM⟩
      · exact ⟨_, _, .bool (cloB n nodes (m + 1) i rows), rfl, hM, rfl, rfl, ex, hex, rfl⟩
      · exact ⟨_, _, .bool (cloB n nodes (m + 1) i rows), rfl, hM, rfl, rfl, ex, hex, rfl⟩
      · exact ⟨_, _, .bool (cloB n nodes (m + 1) i rows), rfl, hM, rfl, rfl, ex, hex, rfl⟩
    rw [cloB]
    refine Spec.intro tt_ok mx_ok (chkL n nodes rows) Try.func12 rfl (by decide) ?_
    conv => whnf
    refine needI (by omega) ?_
    rw [Int.toNat_natCast]
    conv => whnf
    refine WPc.loopF tt_ok mx_ok (fun x : Nat × List Row => x.1 ≤ (nodes.getD i nod0).lines.length ∧ lnR n rows (nodes.getD i nod0).lines x.1 = some x.2) (fun x => [(22, .int .i64 (x.1 : Int))]) (fun x => nodL n nodes i x.2) (fun x => (nodes.getD i nod0).lines.length - x.1) (0, rows) ⟨Nat.zero_le _, rfl⟩ ?_; conv => whnf
    refine ⟨Sub.by_ [(7001, .old 7001), (7002, .old 7002), (1000, .old 7002), (5, .old 5)] _ 400 rfl (auto_) (auto_), ?_⟩
    rintro ⟨k, a⟩ ⟨hk, ha⟩
    dsimp only at hk ha
    obtain ⟨hra, hla⟩ := lnR_rdy hr ha
    obtain ⟨ex, hex, hae⟩ := lnR_more ha
    conv => whnf
    refine cmpI (fun h1 => ?_) (fun h1 => ?_) <;> conv => whnf
    · have hlt : k < (nodes.getD i nod0).lines.length := by omega
      refine needI (by omega) ?_
      rw [Int.toNat_natCast]
      conv => whnf
      refine Spec.call [(7001, .old 7001), (7002, .old 1000)] (chkL n nodes a) 400 rfl (auto_) (auto_) (deriveF n nodes a ((nodes.getD i nod0).lines.getD k der0) hn hra (by omega) (hok k hlt)) ?_
      rintro u M' ⟨hu, rfl⟩
      rcases hu with ⟨hb, rfl⟩ | ⟨hb, r, rfl⟩
      · refine ⟨[(7001, .old 7001), (1000, .old 7002)], [(7001, .box 47 [.int .i64 n, .sl nod0 encNo nodes, .row 1000 a.length 2]), (1000, .row 42 row0 encRw a)], .tup [.agg (encRw (dvR n a ((nodes.getD i nod0).lines.getD k der0))), .bool true], rfl, (auto_), (auto_), ?_⟩
        conv => whnf
        first | refine drawI (by decide +kernel) ?_ | refine drawG (by decide +kernel) ?_
        conv => whnf
        refine bldI row0 encRw [dvR n a ((nodes.getD i nod0).lines.getD k der0)] rfl ?_
        conv => whnf
        refine leakN ?_
        conv => whnf
        refine appI [dvR n a ((nodes.getD i nod0).lines.getD k der0)] rfl (by simp only [List.length_cons, List.length_nil]; omega) ?_
        conv => whnf
        repeat' ((first|refine nI ?_|refine aI ?_|refine arU trivial (by omega) ?_|refine arB trivial (by omega) ?_|refine dI ?_|refine dR ?_|refine dP ?_|refine boxP rfl ?_|refine pI _ rfl ?_|refine rowSetI _ rfl ?_|refine tI ?_|refine fI ?_|refine cmpI (fun _ => ?_) (fun _ => ?_)) <;> conv => whnf)
        refine ⟨(k + 1, a ++ [dvR n a ((nodes.getD i nod0).lines.getD k der0)]), ?_, ⟨by dsimp only; omega, ?_⟩, by dsimp only; omega⟩
        · exact Sub.by_ [(7001, .old 7001), (7002, .old 7002), (1000, .old 41), (5, .old 5)] _ 400 rfl (auto_) (auto_)
        · dsimp only
          rw [lnR, ha]
          dsimp only
          rw [if_pos hb]
      · refine ⟨[(7001, .old 7001), (1000, .old 7002)], [(7001, .box 47 [.int .i64 n, .sl nod0 encNo nodes, .row 1000 a.length 2]), (1000, .row 42 row0 encRw a)], .tup [.agg (encRw r), .bool false], rfl, (auto_), (auto_), ?_⟩
        conv => whnf
        have hno : lnR n rows (nodes.getD i nod0).lines (nodes.getD i nod0).lines.length = none := by
          refine lnR_none (k := k + 1) ?_ _ (by omega)
          rw [lnR, ha]
          dsimp only
          rw [if_neg hb]
        rw [hno]
        refine ⟨rfl, ex, by omega, .inl ?_⟩
        rw [← hae]
        exact (auto_)
    · obtain rfl : k = (nodes.getD i nod0).lines.length := by omega
      rw [ha]
      dsimp only
      have hv := hw.2.1 i hi
      unfold nodV at hv
      by_cases h2 : (nodes.getD i nod0).var = -1
      · refine cmpT h2 ?_
        rw [if_pos h2]
        conv => whnf
        refine WPc.loopF tt_ok mx_ok (fun j : Nat => j ≤ a.length ∧ ∀ y, y < j → ¬ conB (a.getD y row0)) (fun j => [(53, .int .i64 (j : Int))]) (fun j => nodL n nodes i a) (fun j => a.length - j) 0 ⟨Nat.zero_le _, fun j hj => absurd hj (Nat.not_lt_zero _)⟩ ?_; conv => whnf
        refine ⟨(Sub.id_ 400 rfl auto_ auto_), ?_⟩
        rintro j ⟨hj, hc⟩
        conv => whnf
        refine cmpI (fun h3 => ?_) (fun h3 => ?_) <;> conv => whnf
        · refine needI (by omega) ?_
          rw [Int.toNat_natCast]
          conv => whnf
          have hwj := hra j (by omega)
          refine dC (ContradictoryF (a.getD j row0) (by omega)) (fun _ => ?_) (fun _ => ?_) <;> (conv => whnf)
          · rename_i h4
            refine ⟨dec_t ⟨j, by omega, h4⟩, ex, by omega, .inl ?_⟩
            rw [← hae]
            exact (auto_)
          · rename_i h4
            repeat' ((first|refine nI ?_|refine aI ?_|refine arU trivial (by omega) ?_|refine arB trivial (by omega) ?_|refine dI ?_|refine dR ?_|refine dP ?_|refine boxP rfl ?_|refine pI _ rfl ?_|refine rowSetI _ rfl ?_|refine tI ?_|refine fI ?_|refine cmpI (fun _ => ?_) (fun _ => ?_)) <;> conv => whnf)
            refine ⟨j + 1, (Sub.id_ 400 rfl auto_ auto_), ⟨by omega, fun y hy => ?_⟩, by dsimp only; omega⟩
            by_cases e : y = j
            · subst e; exact h4
            · exact hc y (by omega)
        · refine ⟨dec_f (fun ⟨y, h4, h5⟩ => hc y (by omega) h5), ex, by omega, .inl ?_⟩
          rw [← hae]
          exact (auto_)
      · refine cmpF h2 ?_
        rw [if_neg h2]
        conv => whnf
        obtain ⟨v1, v2, v3, v4⟩ := hv.resolve_left h2
        have hL := nodeF n nodes hn ho hw m (nodes.getD i nod0).left.toNat (a ++ [splL n (nodes.getD i nod0).var (nodes.getD i nod0).at_]) (by omega) (by omega) (rdy_app hra (spl_rdy (.inr rfl) (by unfold numB; omega))) (by rw [List.length_append]; simp only [List.length_cons, List.length_nil]; omega)
        have hR := nodeF n nodes hn ho hw m (nodes.getD i nod0).right.toNat (a ++ [splR n (nodes.getD i nod0).var ((nodes.getD i nod0).at_ + 1)]) (by omega) (by omega) (rdy_app hra (spl_rdy (.inl rfl) (by unfold numB; omega))) (by rw [List.length_append]; simp only [List.length_cons, List.length_nil]; omega)
        rw [Int.toNat_of_nonneg (by omega)] at hL hR
        generalize cloB n nodes m (nodes.getD i nod0).left.toNat (a ++ [splL n (nodes.getD i nod0).var (nodes.getD i nod0).at_]) = bL at hL ⊢
        generalize cloB n nodes m (nodes.getD i nod0).right.toNat (a ++ [splR n (nodes.getD i nod0).var ((nodes.getD i nod0).at_ + 1)]) = bR at hR ⊢
        have cL := childF n nodes a _ _ bL (by omega) hL
        have cR := childF n nodes a _ _ bR (by omega) hR
        refine drawN .any [72, 87] (by decide +kernel) ?_
        conv => whnf
        (refine oC (atMostF n (nodes.getD i nod0).var (nodes.getD i nod0).at_ (by omega) v1) ?_; conv => whnf)
        refine Spec.call [(7001, .old 7001), (7002, .old 1000)] (chkL n nodes a) 400 rfl (auto_) (auto_) cL ?_
        rintro u M' ⟨rfl, rfl⟩
        refine ⟨[(7001, .old 7001), (1000, .old 7002), (1001, .old 7003)], [(7001, .box 47 [.int .i64 n, .sl nod0 encNo nodes, .row 1001 a.length 2]), (1000, .dead), (1001, .row 42 row0 encRw a)], .bool bL, rfl, (auto_), rfl, ?_⟩
        cases bL with
        | false =>
          conv => whnf
          refine ⟨rfl, ex, by omega, .inr (.inl ?_)⟩
          rw [← hae]
          exact (auto_)
        | true =>
          conv => whnf
          refine arI trivial (by omega) ?_
          conv => whnf
          (refine oC (atLeastF n (nodes.getD i nod0).var ((nodes.getD i nod0).at_ + 1) (by omega) v1 (by omega)) ?_; conv => whnf)
          refine Spec.call [(7001, .old 7001), (7002, .old 1001)] (chkL n nodes a) 400 rfl (auto_) (auto_) cR ?_
          rintro u M' ⟨rfl, rfl⟩
          refine ⟨[(7001, .old 7001), (1001, .old 7002), (1002, .old 7003)], [(7001, .box 47 [.int .i64 n, .sl nod0 encNo nodes, .row 1002 a.length 2]), (1001, .dead), (1002, .row 42 row0 encRw a)], .bool bR, rfl, (auto_), rfl, ?_⟩
          conv => whnf
          refine ⟨rfl, ex, by omega, .inr (.inr ?_)⟩
          rw [← hae]
          exact (auto_)
theorem CheckRefutationF (s : LSys) (nodes : List Nod) (hs : okS s) (ho : okN nodes) : PSpec Try.prog 5 [.agg (encSy s), .agg [.sl nod0 encNo nodes]] (fun u => u = .bool (decide (refB s nodes))) := by
  have ho1 := ho.1
  refine PSpec.intro tt_ok mx_ok Try.func5 rfl (by decide) ?_; (conv => whnf)
  refine boxP rfl ?_
  conv => whnf
  refine boxP rfl ?_
  conv => whnf
  (refine oP (ValidateF s hs) ?_; conv => whnf)
  refine cmpI (fun h => ?_) (fun h => ?_) <;> conv => whnf
  · exact ⟨dec_f (fun hh => h hh.1), rfl⟩
  have h0 : sysE s = 0 := Classical.not_not.1 h
  obtain ⟨a1, a2, a3, a4⟩ := sysE_ok h0
  have hw := wellFormedF s.vars.toNat nodes (by omega) ho
  rw [Int.toNat_of_nonneg a1.1] at hw
  refine dC (hw) (fun _ => ?_) (fun _ => ?_) <;> (conv => whnf)
  case refine_2 => rename_i h2; exact ⟨dec_f (fun hh => h2 hh.2.1), rfl⟩
  rename_i h2
  refine needI (by dsimp only; omega) ?_
  conv => whnf
  have hN := nodeF s.vars.toNat nodes (by omega) ho h2 nodes.length 0 s.rows (by have := h2.1; omega) (by omega) (sys_rdy h0) (by have := h2.1; omega)
  have ev : ((s.vars.toNat : Nat) : Int) = s.vars := Int.toNat_of_nonneg a1.1
  unfold chkL nodR chkN at hN
  rw [ev] at hN
  refine Spec.call [(7001, .old 5), (7002, .old 25)] [(7001, .box 47 [.int .i64 s.vars, .sl nod0 encNo nodes, .row 7002 s.rows.length 2]), (7002, .row 42 row0 encRw s.rows)] 400 rfl (auto_) (auto_) hN ?_
  rintro u M' ⟨rfl, ex, hex, rfl⟩
  refine ⟨[(5, .old 7001), (25, .old 7002), (1000, .old 7003)], [(5, .box 47 [.int .i64 s.vars, .sl nod0 encNo nodes, .row 1000 (s.rows ++ ex).length 2]), (25, .dead), (1000, .row 42 row0 encRw (s.rows ++ ex))], .bool (cloB s.vars.toNat nodes nodes.length 0 s.rows), rfl, (auto_), rfl, ?_⟩
  conv => whnf
  refine ⟨?_, rfl⟩
  refine avB_ ?_
  cases hc : cloB s.vars.toNat nodes nodes.length 0 s.rows with
  | true => exact (decide_eq_true (p := refB s nodes) ⟨h0, h2, hc⟩).symm
  | false => exact (decide_eq_false (p := refB s nodes) fun h => by have := h.2.2; rw [hc] at this; cases this).symm
end Go.Proofs.Ytgjmbmdaaahmkaa
