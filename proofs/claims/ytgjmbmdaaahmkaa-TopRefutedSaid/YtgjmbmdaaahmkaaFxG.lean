
/-
  Contract: the first point in a box, by the program.
-/
import Derived.Test.YtgjmbmdaaahmkaaFxF
set_option linter.unusedVariables false
set_option linter.unusedSimpArgs false
namespace Go.Proofs.Ytgjmbmdaaahmkaa
set_option maxRecDepth 100000
set_option maxHeartbeats 32000000

/-- what a search in a box answers: a point that satisfies the system, or none -/
def lstA (s : LSys) (u : AV) : Prop := (∃ x : List Int, (x.length : Int) = s.vars ∧ satB s x ∧ u = .tup [.sl 0 encI x, .bool true, .int .i64 0]) ∨ ∃ e : Int, u = .tup [.nilsl, .bool false, .int .i64 e]
theorem trail_last {x : List Int} {b : Int} {n k : Nat} (hn : x.length = n) (hk : k < n) (hx : x = x.take (n - k) ++ List.replicate k b) : x = x.take (n - (k + 1)) ++ x.getD (n - (k + 1)) 0 :: List.replicate k b := by
  have h : n - (k + 1) < x.length := by omega
  have e := takeD 0 h
  rw [show n - (k + 1) + 1 = n - k by omega] at e
  rw [e, List.append_assoc] at hx
  exact hx
theorem LeastF (s : LSys) (b : Int) (hs : okS s) (hb : 0 ≤ b ∧ b ≤ 1048576) : PSpec Try.prog 8 [.agg (encSy s), .int .i64 b] (lstA s) := by
  refine PSpec.intro tt_ok mx_ok Try.func8 rfl (by decide) ?_; (conv => whnf)
  refine boxP rfl ?_
  conv => whnf
  (refine oP (ValidateF s hs) ?_; conv => whnf)
  refine cmpI (fun h => ?_) (fun h => ?_) <;> conv => whnf
  · exact ⟨.inr ⟨_, rfl⟩, rfl⟩
  have h0 : sysE s = 0 := Classical.not_not.1 h
  obtain ⟨a1, a2, a3, a4⟩ := sysE_ok h0
  refine cmpF (by omega) ?_
  conv => whnf
  refine cmpF (by omega) ?_
  conv => whnf
  refine WPc.loopF tt_ok mx_ok (fun k : Nat => (k : Int) ≤ s.vars ∧ 1 ≤ (b + 1) ^ k ∧ (b + 1) ^ k ≤ 100000) (fun k => [(24, .int .i64 (k : Int)), (8, .int .i64 ((b + 1) ^ k))]) (fun _ => []) (fun k => (s.vars - k).toNat) 0 ⟨by omega, by simp, by simp⟩ ?_; conv => whnf
  refine ⟨?_, ?_⟩
  · show Sub _ _ _ _ _
    rw [Int.pow_zero]
    exact (Sub.id_ 400 rfl auto_ auto_)
  rintro k ⟨hk, hp1, hp⟩
  conv => whnf
  refine cmpI (fun h1 => ?_) (fun h1 => ?_) <;> conv => whnf
  · refine arI trivial (by omega) ?_
    conv => whnf
    have hm : (b + 1) ^ k * (b + 1) ≤ 100000 * (b + 1) := Int.mul_le_mul_of_nonneg_right hp (by omega)
    have hm1 : 1 * (b + 1) ≤ (b + 1) ^ k * (b + 1) := Int.mul_le_mul_of_nonneg_right hp1 (by omega)
    refine arI trivial (by omega) ?_
    conv => whnf
    refine cmpI (fun h2 => ?_) (fun h2 => ?_) <;> conv => whnf
    · exact ⟨.inr ⟨_, rfl⟩, rfl⟩
    repeat' ((first|refine nI ?_|refine aI ?_|refine arU trivial (by omega) ?_|refine arB trivial (by omega) ?_|refine dI ?_|refine dR ?_|refine dP ?_|refine boxP rfl ?_|refine pI _ rfl ?_|refine rowSetI _ rfl ?_|refine tI ?_|refine fI ?_|refine cmpI (fun _ => ?_) (fun _ => ?_)) <;> conv => whnf)
    refine ⟨k + 1, ?_, ⟨by omega, ?_, ?_⟩, by dsimp only; omega⟩
    · dsimp only
      rw [Int.pow_succ]
      exact (Sub.id_ 400 rfl auto_ auto_)
    · rw [Int.pow_succ]; omega
    · rw [Int.pow_succ]; omega
  refine mkI 0 encI 0 rfl (by dsimp only; omega) ?_
  conv => whnf
  have hb1 : 0 ≤ b := hb.1
  generalize hn : s.vars.toNat = n
  have hvn : s.vars = (n : Int) := by omega
  refine WPc.loopF tt_ok mx_ok (fun x : List Int => x.length = n ∧ ∀ y ∈ x, 0 ≤ y ∧ y ≤ b) (fun x => []) (fun x => [(35, .row 3 0 encI x)]) (fun x => ((b + 1) ^ n - odo b x).toNat) (List.replicate n 0) ⟨by simp, fun y hy => by rw [List.eq_of_mem_replicate hy]; omega⟩ ?_; conv => whnf
  refine ⟨(Sub.id_ 400 rfl auto_ auto_), ?_⟩
  rintro x ⟨hx, hr⟩
  conv => whnf
  by_cases hsat : satB s x
  · have hS := SatisfiesF s x hs (by omega)
    rw [decide_eq_true hsat] at hS
    (refine Spec.borrow (n := 5) (hS) rfl (by rintro _ rfl; rfl) ?_; rintro _ rfl; conv => whnf)
    exact ⟨.inl ⟨x, by omega, hsat, rfl⟩, rfl⟩
  · have hS := SatisfiesF s x hs (by omega)
    rw [decide_eq_false hsat] at hS
    (refine Spec.borrow (n := 5) (hS) rfl (by rintro _ rfl; rfl) ?_; rintro _ rfl; conv => whnf)
    refine arI trivial (by omega) ?_
    conv => whnf
    refine WPc.loopF tt_ok mx_ok (fun k : Nat => k ≤ n ∧ x = x.take (n - k) ++ List.replicate k b) (fun k => [(10, .int .i64 ((n : Int) - 1 - (k : Int)))]) (fun k => [(35, .row 3 0 encI (x.take (n - k) ++ List.replicate k 0))]) (fun k => n - k) 0 ⟨Nat.zero_le _, by simp [← hx]⟩ ?_; conv => whnf
    refine ⟨?_, ?_⟩
    · have e : x.take (n - 0) ++ List.replicate 0 0 = x := by simp [← hx]
      show Sub _ _ _ _ _
      rw [e]
      exact (Sub.id_ 400 rfl auto_ auto_)
    rintro k2 ⟨hk2, hx2⟩
    conv => whnf
    refine cmpI (fun g1 => ?_) (fun g1 => ?_) <;> conv => whnf
    · have hlt : k2 < n := by omega
      have hlx : n - (k2 + 1) < x.length := by omega
      have hxi := hr _ (memD 0 hlx)
      have hsp := trail_last hx hlt hx2
      have ht : (x.take (n - (k2 + 1))).length = n - (k2 + 1) := by rw [List.length_take]; omega
      have hget : (x.take (n - k2) ++ List.replicate k2 0).getD (n - (k2 + 1)) 0 = x.getD (n - (k2 + 1)) 0 := by
        rw [gD, List.getElem?_append_left (by rw [List.length_take]; omega), List.getElem?_take, if_pos (by omega), ← gD]
      have hset : ∀ v, (x.take (n - k2) ++ List.replicate k2 0).set (n - (k2 + 1)) v = x.take (n - (k2 + 1)) ++ v :: List.replicate k2 0 := by
        intro v
        have e := takeD 0 hlx
        rw [show n - (k2 + 1) + 1 = n - k2 by omega] at e
        rw [e, List.append_assoc]
        have := List.set_append_right (s := x.take (n - (k2 + 1))) (t := [x.getD (n - (k2 + 1)) 0] ++ List.replicate k2 0) (i := n - (k2 + 1)) v (by omega)
        rw [this, ht, Nat.sub_self]
        rfl
      refine needI (by omega) ?_
      rw [show ((n : Int) - 1 - (k2 : Int)).toNat = n - (k2 + 1) by omega]
      conv => whnf
      rw [hget]
      conv => whnf
      refine cmpI (fun g2 => ?_) (fun g2 => ?_) <;> conv => whnf
      · refine needI (by omega) ?_
        rw [show ((n : Int) - 1 - (k2 : Int)).toNat = n - (k2 + 1) by omega]
        conv => whnf
        rw [hget]
        refine arI trivial (by omega) ?_
        conv => whnf
        refine needI (by omega) ?_
        rw [show ((n : Int) - 1 - (k2 : Int)).toNat = n - (k2 + 1) by omega]
        conv => whnf
        refine rowSetI _ rfl ?_
        conv => whnf
        rw [hset]
        have hlen : (x.take (n - (k2 + 1)) ++ (x.getD (n - (k2 + 1)) 0 + 1) :: List.replicate k2 0).length = n := by
          rw [List.length_append, ht, List.length_cons, List.length_replicate]; omega
        have hrng : ∀ y ∈ x.take (n - (k2 + 1)) ++ (x.getD (n - (k2 + 1)) 0 + 1) :: List.replicate k2 0, 0 ≤ y ∧ y ≤ b := by
          intro y hy
          rcases List.mem_append.1 hy with hy | hy
          · exact hr y (List.mem_of_mem_take hy)
          · rcases List.mem_cons.1 hy with rfl | hy
            · omega
            · rw [List.eq_of_mem_replicate hy]; omega
        refine ⟨x.take (n - (k2 + 1)) ++ (x.getD (n - (k2 + 1)) 0 + 1) :: List.replicate k2 0, (Sub.id_ 400 rfl auto_ auto_), ⟨hlen, hrng⟩, ?_⟩
        have o1 := odo_step b (x.getD (n - (k2 + 1)) 0) (x.take (n - (k2 + 1))) k2
        rw [← hsp] at o1
        have o2 := (odo_rng hb1 hrng).2
        rw [hlen] at o2
        dsimp only
        omega
      · refine needI (by omega) ?_
        rw [show ((n : Int) - 1 - (k2 : Int)).toNat = n - (k2 + 1) by omega]
        conv => whnf
        refine rowSetI _ rfl ?_
        conv => whnf
        rw [hset]
        refine arI trivial (by omega) ?_
        conv => whnf
        have e0 : x.getD (n - (k2 + 1)) 0 = b := by omega
        refine ⟨k2 + 1, ?_, ⟨by omega, ?_⟩, by dsimp only; omega⟩
        · dsimp only
          rw [List.replicate_succ]
          exact (Sub.id_ 400 rfl auto_ auto_)
        · rw [e0] at hsp
          rw [List.replicate_succ]
          exact hsp
    · exact ⟨.inr ⟨_, rfl⟩, rfl⟩
end Go.Proofs.Ytgjmbmdaaahmkaa
