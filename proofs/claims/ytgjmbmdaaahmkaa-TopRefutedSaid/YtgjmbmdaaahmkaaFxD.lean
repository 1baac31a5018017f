
/-
  Contracts: trees of nodes, and which refutations are correct, by the program.
-/
import Derived.Test.YtgjmbmdaaahmkaaFxC
set_option linter.unusedVariables false
set_option linter.unusedSimpArgs false
namespace Go.Proofs.Ytgjmbmdaaahmkaa
set_option maxRecDepth 100000
set_option maxHeartbeats 32000000

/-- nodes that memory holds -/
def okN (nodes : List Nod) : Prop := nodes.length ≤ 140737488355328 ∧ ∀ i, i < nodes.length → (nodes.getD i nod0).lines.length ≤ 140737488355328 ∧ ∀ j, j < (nodes.getD i nod0).lines.length → okD ((nodes.getD i nod0).lines.getD j der0)
def prtL (nodes : List Nod) (k : Nat) : List Int := (List.range nodes.length).map fun i : Nat => parM nodes (i : Int) k
theorem prtL_len (nodes : List Nod) (k : Nat) : (prtL nodes k).length = nodes.length := by simp [prtL]
theorem prtL_get {nodes : List Nod} {k i : Nat} (h : i < nodes.length) : (prtL nodes k).getD i 0 = parM nodes i k := by
  rw [getD_elem 0 (by rw [prtL_len]; exact h)]; simp [prtL]
theorem prtL_zero (nodes : List Nod) : prtL nodes 0 = List.replicate nodes.length 0 := by
  apply List.ext_getElem
  · simp [prtL]
  · intro i h1 h2; simp [prtL, parM]
def bump (l : List Int) (c : Int) : List Int := l.set c.toNat (l.getD c.toNat 0 + 1)
theorem bump_len (l : List Int) (c : Int) : (bump l c).length = l.length := by simp [bump]
theorem bump_get {l : List Int} {c : Int} {i : Nat} (hi : i < l.length) (hc : 0 ≤ c) : (bump l c).getD i 0 = l.getD i 0 + (if c = (i : Int) then 1 else 0) := by
  unfold bump
  by_cases e : c.toNat = i
  · subst e
    rw [gD, List.getElem?_set_self hi, if_pos (by omega)]
    rfl
  · rw [gD, List.getElem?_set_ne e, ← gD, if_neg (by omega), Int.add_zero]
def pars (nodes : List Nod) (k : Nat) : Nat → List Int
  | 0 => prtL nodes k
  | 1 => bump (prtL nodes k) (nodes.getD k nod0).left
  | _ => bump (bump (prtL nodes k) (nodes.getD k nod0).left) (nodes.getD k nod0).right
theorem pars_len (nodes : List Nod) (k j : Nat) : (pars nodes k j).length = nodes.length := by
  unfold pars; split <;> simp [bump_len, prtL_len]
theorem pars_b {nodes : List Nod} {k j : Nat} (hl : 0 ≤ (nodes.getD k nod0).left) (hr : 0 ≤ (nodes.getD k nod0).right) {i : Nat} (hi : i < nodes.length) : 0 ≤ (pars nodes k j).getD i 0 ∧ (pars nodes k j).getD i 0 ≤ 2 * (k : Int) + 2 := by
  have hp := parM_b nodes i k
  unfold pars
  split
  · rw [prtL_get hi]; omega
  · rw [bump_get (by rw [prtL_len]; exact hi) hl, prtL_get hi]; split <;> omega
  · rw [bump_get (by rw [bump_len, prtL_len]; exact hi) hr, bump_get (by rw [prtL_len]; exact hi) hl, prtL_get hi]; split <;> split <;> omega
theorem pars_two {nodes : List Nod} {k : Nat} (hv : (nodes.getD k nod0).var ≠ -1) (hl : 0 ≤ (nodes.getD k nod0).left) (hr : 0 ≤ (nodes.getD k nod0).right) : pars nodes k 2 = prtL nodes (k + 1) := by
  apply List.ext_getElem
  · rw [pars_len, prtL_len]
  · intro i h1 h2
    have hi : i < nodes.length := by rw [pars_len] at h1; exact h1
    have e := bump_get (l := bump (prtL nodes k) (nodes.getD k nod0).left) (c := (nodes.getD k nod0).right) (i := i) (by rw [bump_len, prtL_len]; exact hi) hr
    rw [bump_get (by rw [prtL_len]; exact hi) hl, prtL_get hi] at e
    have e2 := prtL_get (k := k + 1) hi
    rw [getD_elem 0 h2] at e2
    rw [e2, parM, if_neg hv]
    have e3 : (pars nodes k 2).getD i 0 = (pars nodes k 2)[i] := getD_elem 0 h1
    rw [← e3]
    show (bump (bump (prtL nodes k) (nodes.getD k nod0).left) (nodes.getD k nod0).right).getD i 0 = _
    rw [e]
    omega
theorem prtL_skip {nodes : List Nod} {k : Nat} (hv : (nodes.getD k nod0).var = -1) : prtL nodes (k + 1) = prtL nodes k := by
  unfold prtL
  congr 1
  funext i
  rw [parM, if_pos hv, Int.add_zero]
theorem wellFormedF (n : Nat) (nodes : List Nod) (hn : n ≤ 1000) (ho : okN nodes) : PSpec Try.prog 11 [.int .i64 n, .agg [.sl nod0 encNo nodes]] (fun u => u = .bool (decide (wefB n nodes))) := by
  have ho1 := ho.1
  refine PSpec.intro tt_ok mx_ok Try.func11 rfl (by decide) ?_; (conv => whnf)
  refine boxP rfl ?_
  conv => whnf
  refine cmpI (fun h => ?_) (fun h => ?_) <;> conv => whnf
  · exact ⟨dec_f (fun hh => by have := hh.1; omega), rfl⟩
  refine cmpI (fun h' => ?_) (fun h' => ?_) <;> conv => whnf
  · exact ⟨dec_f (fun hh => by have := hh.1; omega), rfl⟩
  refine mkI 0 encI 0 rfl (by dsimp only; omega) ?_
  rw [Int.toNat_natCast, ← prtL_zero]
  conv => whnf
  refine WPc.loopF tt_ok mx_ok (fun k : Nat => k ≤ nodes.length ∧ (∀ i, i < k → nodV n nodes.length i (nodes.getD i nod0)) ∧ (linN nodes k : Int) ≤ 140737488355328 * (k : Int)) (fun k => [(30, .int .i64 (k : Int)), (6, .int .i64 (linN nodes k : Int))]) (fun k => [(26, .row 3 0 encI (prtL nodes k))]) (fun k => nodes.length - k) 0 ⟨Nat.zero_le _, fun j hj => absurd hj (Nat.not_lt_zero _), by simp [linN]⟩ ?_; conv => whnf
  refine ⟨(Sub.id_ 400 rfl auto_ auto_), ?_⟩
  rintro k ⟨hk, ha, hb⟩
  conv => whnf
  refine cmpI (fun h1 => ?_) (fun h1 => ?_) <;> conv => whnf
  · have hlt : k < nodes.length := by omega
    have hln := (ho.2 k hlt).1
    have hlin : (linN nodes (k + 1) : Int) = (linN nodes k : Int) + ((nodes.getD k nod0).lines.length : Int) := by rw [linN]; push_cast; rfl
    refine needI (by omega) ?_
    rw [Int.toNat_natCast]
    conv => whnf
    refine arI trivial (by omega) ?_
    conv => whnf
    refine cmpI (fun h2 => ?_) (fun h2 => ?_) <;> conv => whnf
    · repeat' ((first|refine nI ?_|refine aI ?_|refine arU trivial (by omega) ?_|refine arB trivial (by omega) ?_|refine dI ?_|refine dR ?_|refine dP ?_|refine boxP rfl ?_|refine pI _ rfl ?_|refine rowSetI _ rfl ?_|refine tI ?_|refine fI ?_|refine cmpI (fun _ => ?_) (fun _ => ?_)) <;> conv => whnf)
      refine ⟨k + 1, ?_, ⟨by omega, fun i hi => ?_, by omega⟩, by dsimp only; omega⟩
      · dsimp only
        rw [prtL_skip h2, hlin]
        exact (Sub.id_ 400 rfl auto_ auto_)
      · by_cases e : i = k
        · subst e; exact .inl h2
        · exact ha i (by omega)
    have no : ¬ ((0 ≤ (nodes.getD k nod0).var ∧ (nodes.getD k nod0).var < (n : Int)) ∧ (0 ≤ (nodes.getD k nod0).at_ ∧ (nodes.getD k nod0).at_ ≤ 1048576) ∧ ((k : Int) < (nodes.getD k nod0).left ∧ (nodes.getD k nod0).left < nodes.length) ∧ ((k : Int) < (nodes.getD k nod0).right ∧ (nodes.getD k nod0).right < nodes.length)) → ¬ wefB n nodes := fun h hh => by
      have := hh.2.1 k hlt
      unfold nodV at this
      rcases this with h3 | h3
      · exact h2 h3
      · exact h h3
    refine cmpI (fun h3 => ?_) (fun h3 => ?_) <;> conv => whnf
    · exact ⟨dec_f (no (by omega)), rfl⟩
    refine cmpI (fun h4 => ?_) (fun h4 => ?_) <;> conv => whnf
    · exact ⟨dec_f (no (by omega)), rfl⟩
    refine cmpI (fun h5 => ?_) (fun h5 => ?_) <;> conv => whnf
    · exact ⟨dec_f (no (by omega)), rfl⟩
    refine cmpI (fun h6 => ?_) (fun h6 => ?_) <;> conv => whnf
    · exact ⟨dec_f (no (by omega)), rfl⟩
    refine WPc.loopF tt_ok mx_ok (fun j : Nat => j ≤ 2 ∧ ∀ i, i < j → (k : Int) < [(nodes.getD k nod0).left, (nodes.getD k nod0).right].getD i 0 ∧ [(nodes.getD k nod0).left, (nodes.getD k nod0).right].getD i 0 < nodes.length) (fun j => [(68, .int .i64 (j : Int))]) (fun j => [(26, .row 3 0 encI (pars nodes k j)), (8, .box 63 (encNo (nodes.getD k nod0))), (66, .row 3 0 encI [(nodes.getD k nod0).left, (nodes.getD k nod0).right])]) (fun j => 2 - j) 0 ⟨Nat.zero_le _, fun j hj => absurd hj (Nat.not_lt_zero _)⟩ ?_; conv => whnf
    refine ⟨(Sub.id_ 400 rfl auto_ auto_), ?_⟩
    rintro j ⟨hj, hc⟩
    conv => whnf
    refine cmpI (fun h7 => ?_) (fun h7 => ?_) <;> conv => whnf
    · have hj2 : j < 2 := by omega
      refine needI (by omega) ?_
      rw [Int.toNat_natCast]
      conv => whnf
      have hdo : (j = 0 ∧ [(nodes.getD k nod0).left, (nodes.getD k nod0).right].getD j 0 = (nodes.getD k nod0).left) ∨ (j = 1 ∧ [(nodes.getD k nod0).left, (nodes.getD k nod0).right].getD j 0 = (nodes.getD k nod0).right) := by
        rcases (show j = 0 ∨ j = 1 by omega) with rfl | rfl
        · exact .inl ⟨rfl, rfl⟩
        · exact .inr ⟨rfl, rfl⟩
      refine cmpI (fun h8 => ?_) (fun h8 => ?_) <;> conv => whnf
      · exact ⟨dec_f (no (by omega)), rfl⟩
      refine cmpI (fun h9 => ?_) (fun h9 => ?_) <;> conv => whnf
      · exact ⟨dec_f (no (by omega)), rfl⟩
      have lP := pars_len nodes k j
      refine needI (by omega) ?_
      conv => whnf
      have hv : 0 ≤ (pars nodes k j).getD ([(nodes.getD k nod0).left, (nodes.getD k nod0).right].getD j 0).toNat 0 ∧ (pars nodes k j).getD ([(nodes.getD k nod0).left, (nodes.getD k nod0).right].getD j 0).toNat 0 ≤ 2 * (k : Int) + 2 := by
        have hp := parM_b nodes (([(nodes.getD k nod0).left, (nodes.getD k nod0).right].getD j 0).toNat : Nat) k
        rcases hdo with ⟨rfl, e⟩ | ⟨rfl, e⟩
        · show 0 ≤ (prtL nodes k).getD _ 0 ∧ (prtL nodes k).getD _ 0 ≤ _
          rw [prtL_get (by omega)]
          omega
        · have := (hc 0 (by omega)).1
          have e0 : [(nodes.getD k nod0).left, (nodes.getD k nod0).right].getD 0 0 = (nodes.getD k nod0).left := rfl
          rw [e0] at this
          show 0 ≤ (bump (prtL nodes k) (nodes.getD k nod0).left).getD _ 0 ∧ (bump (prtL nodes k) (nodes.getD k nod0).left).getD _ 0 ≤ _
          rw [bump_get (by rw [prtL_len]; omega) (by omega), prtL_get (by omega)]
          split <;> omega
      refine arI trivial (by omega) ?_
      conv => whnf
      refine needI (by omega) ?_
      conv => whnf
      refine rowSetI _ rfl ?_
      conv => whnf
      repeat' ((first|refine nI ?_|refine aI ?_|refine arU trivial (by omega) ?_|refine arB trivial (by omega) ?_|refine dI ?_|refine dR ?_|refine dP ?_|refine boxP rfl ?_|refine pI _ rfl ?_|refine rowSetI _ rfl ?_|refine tI ?_|refine fI ?_|refine cmpI (fun _ => ?_) (fun _ => ?_)) <;> conv => whnf)
      refine ⟨j + 1, ?_, ⟨by omega, fun i hi => ?_⟩, by dsimp only; omega⟩
      · dsimp only
        rcases hdo with ⟨rfl, e⟩ | ⟨rfl, e⟩
        · exact (Sub.id_ 400 rfl auto_ auto_)
        · exact (Sub.id_ 400 rfl auto_ auto_)
      · by_cases e : i = j
        · subst e; omega
        · exact hc i (by omega)
    · obtain rfl : j = 2 := by omega
      have c0 := hc 0 (by omega)
      have c1 := hc 1 (by omega)
      have e0 : [(nodes.getD k nod0).left, (nodes.getD k nod0).right].getD 0 0 = (nodes.getD k nod0).left := rfl
      have e1 : [(nodes.getD k nod0).left, (nodes.getD k nod0).right].getD 1 0 = (nodes.getD k nod0).right := rfl
      rw [e0] at c0
      rw [e1] at c1
      repeat' ((first|refine nI ?_|refine aI ?_|refine arU trivial (by omega) ?_|refine arB trivial (by omega) ?_|refine dI ?_|refine dR ?_|refine dP ?_|refine boxP rfl ?_|refine pI _ rfl ?_|refine rowSetI _ rfl ?_|refine tI ?_|refine fI ?_|refine cmpI (fun _ => ?_) (fun _ => ?_)) <;> conv => whnf)
      refine ⟨k + 1, ?_, ⟨by omega, fun i hi => ?_, by omega⟩, by dsimp only; omega⟩
      · dsimp only
        rw [← pars_two h2 (by omega) (by omega), hlin]
        exact (Sub.id_ 400 rfl auto_ auto_)
      · by_cases e : i = k
        · subst e; exact .inr ⟨by omega, by omega, by omega, by omega⟩
        · exact ha i (by omega)
  · obtain rfl : k = nodes.length := by omega
    have lP := prtL_len nodes nodes.length
    refine WPc.loopF tt_ok mx_ok (fun j : Nat => j ≤ nodes.length ∧ ∀ i, i < j → 0 < i → parM nodes i nodes.length = 1) (fun j => [(92, .int .i64 (j : Int))]) (fun j => [(26, .row 3 0 encI (prtL nodes nodes.length))]) (fun j => nodes.length - j) 0 ⟨Nat.zero_le _, fun j hj => absurd hj (Nat.not_lt_zero _)⟩ ?_; conv => whnf
    refine ⟨(Sub.id_ 400 rfl auto_ auto_), ?_⟩
    rintro j ⟨hj, hc⟩
    conv => whnf
    refine cmpI (fun h2 => ?_) (fun h2 => ?_) <;> conv => whnf
    · refine needI (by omega) ?_
      rw [Int.toNat_natCast]
      conv => whnf
      rw [prtL_get (show j < nodes.length by omega)]
      conv => whnf
      refine cmpI (fun h3 => ?_) (fun h3 => ?_) <;> conv => whnf
      · refine cmpI (fun h4 => ?_) (fun h4 => ?_) <;> conv => whnf
        · exact ⟨dec_f (fun hh => h4 (hh.2.2.1 j (by omega) (by omega))), rfl⟩
        · repeat' ((first|refine nI ?_|refine aI ?_|refine arU trivial (by omega) ?_|refine arB trivial (by omega) ?_|refine dI ?_|refine dR ?_|refine dP ?_|refine boxP rfl ?_|refine pI _ rfl ?_|refine rowSetI _ rfl ?_|refine tI ?_|refine fI ?_|refine cmpI (fun _ => ?_) (fun _ => ?_)) <;> conv => whnf)
          refine ⟨j + 1, (Sub.id_ 400 rfl auto_ auto_), ⟨by omega, fun i hi h0 => ?_⟩, by dsimp only; omega⟩
          by_cases e : i = j
          · subst e; exact Classical.not_not.1 h4
          · exact hc i (by omega) h0
      · repeat' ((first|refine nI ?_|refine aI ?_|refine arU trivial (by omega) ?_|refine arB trivial (by omega) ?_|refine dI ?_|refine dR ?_|refine dP ?_|refine boxP rfl ?_|refine pI _ rfl ?_|refine rowSetI _ rfl ?_|refine tI ?_|refine fI ?_|refine cmpI (fun _ => ?_) (fun _ => ?_)) <;> conv => whnf)
        refine ⟨j + 1, (Sub.id_ 400 rfl auto_ auto_), ⟨by omega, fun i hi h0 => ?_⟩, by dsimp only; omega⟩
        exact hc i (by omega) h0
    · obtain rfl : j = nodes.length := by omega
      refine cmpI (fun h3 => ?_) (fun h3 => ?_) <;> conv => whnf
      · exact ⟨dec_t ⟨by omega, ha, hc, by omega⟩, rfl⟩
      · exact ⟨dec_f (fun hh => h3 (by have := hh.2.2.2; omega)), rfl⟩
end Go.Proofs.Ytgjmbmdaaahmkaa
