
/-
  Properties: the first error of a property, by the program and by the document's answer.
-/
import Derived.Test.YtgbicnldbhfhiaaDoorFnX
set_option linter.unusedVariables false
set_option linter.unusedSimpArgs false
namespace Go.Proofs.YtgbicnldbhfhiaaDoor
set_option maxRecDepth 100000
set_option maxHeartbeats 8000000

structure Cnt where
  states : List Int
  least : Int
structure Prp where
  name : ByteArray
  kind : Int
  start : List Int
  bad : List Cnt
  adjacent : List Int
  goal : List Int
def cnt0 : Cnt := ⟨[], 0⟩
def encCnt (c : Cnt) : List AV := [.sl 0 encI c.states, .int .i64 c.least]
def encQ (q : Prp) : List AV := [.str q.name, .int .i64 q.kind, .sl 0 encI q.start, .sl cnt0 encCnt q.bad, .sl 0 encI q.adjacent, .sl 0 encI q.goal]
def bigQ (q : Prp) : Prop := 500 < q.name.size ∨ 60 < q.start.length ∨ 60 < q.bad.length ∨ 60 < q.adjacent.length ∨ 60 < q.goal.length ∨ ∃ j, j < q.bad.length ∧ 60 < (q.bad.getD j cnt0).states.length
instance (q : Prp) : Decidable (bigQ q) := inferInstanceAs (Decidable (_ ∨ _))
theorem bigQ_le {q : Prp} (h : ¬ bigQ q) : q.name.size ≤ 500 ∧ q.start.length ≤ 60 ∧ q.bad.length ≤ 60 ∧ q.adjacent.length ≤ 60 ∧ q.goal.length ≤ 60 := by
  unfold bigQ at h
  omega
theorem bigQ_cnt {q : Prp} (h : ¬ bigQ q) : ∀ j, j < q.bad.length → (q.bad.getD j cnt0).states.length ≤ 60 := fun j hj => by
  have : ¬ (60 < (q.bad.getD j cnt0).states.length) := fun h2 => h (.inr (.inr (.inr (.inr (.inr ⟨j, hj, h2⟩)))))
  omega
/-! ### a number among numbers -/
theorem iIndexF (l : List Int) (s : Int) (hl : l.length ≤ 1000) : PSpec Tryd.prog 87 [.sl 0 encI l, .int .i64 s] (fun u => ∃ n : Int, u = .int .i64 n ∧ (0 ≤ n ↔ s ∈ l)) := by
  refine PSpec.intro tt_ok mx_ok Tryd.func87 rfl (by decide) ?_; (conv => whnf)
  refine WPc.loopF tt_ok mx_ok (fun k : Nat => k ≤ l.length ∧ s ∉ l.take k) (fun k => [(8, .int .i64 (k : Int))]) (fun _ => []) (fun k => l.length - k) 0 ⟨by omega, by simp⟩ ?_; conv => whnf
  refine ⟨(Sub.id_ 400 rfl auto_ auto_), ?_⟩
  rintro k ⟨hk, ha⟩
  conv => whnf
  repeat' (first
      | (refine needI (by first | omega | (dsimp only; omega)) ?_; conv => whnf)
      | (refine arI trivial (by omega) ?_; conv => whnf)
      | (refine arU trivial (by omega) ?_; conv => whnf)
      | (refine arB trivial (by omega) ?_; conv => whnf)
      | (refine drawI (by decide +kernel) ?_; conv => whnf)
      | (refine drawR (by decide +kernel) ?_; conv => whnf)
      | (refine drawP (by decide +kernel) ?_; conv => whnf)
      | (refine boxP rfl ?_; conv => whnf)
      | (refine appI _ rfl (by first | omega | (dsimp only; omega) | (simp only [List.length_cons, List.length_nil, List.length_append]; omega)) ?_; conv => whnf)
      | (refine rowSetI _ rfl ?_; conv => whnf)
      | (refine cmpT (by omega) ?_; conv => whnf)
      | (refine cmpF (by omega) ?_; conv => whnf)
      | (refine cmpI (fun _ => ?_) (fun _ => ?_) <;> conv => whnf))
  · rename_i h1 h2
    rw [Int.toNat_natCast] at h2
    refine ⟨⟨k, rfl, fun _ => ?_, fun _ => by omega⟩, rfl⟩
    rw [h2, List.getD_eq_getElem?_getD, List.getElem?_eq_getElem (by omega)]
    exact List.getElem_mem _
  · rename_i h1 h2
    rw [Int.toNat_natCast] at h2
    refine ⟨k + 1, (Sub.id_ 400 rfl auto_ auto_), ⟨by omega, ?_⟩, by dsimp only; omega⟩
    rw [List.take_succ_eq_append_getElem (by omega), List.mem_append, List.mem_singleton, not_or]
    refine ⟨ha, ?_⟩
    rw [List.getD_eq_getElem?_getD, List.getElem?_eq_getElem (by omega)] at h2
    exact h2
  · obtain rfl : k = l.length := by omega
    rw [List.take_length] at ha
    exact ⟨⟨-1, rfl, fun h => by omega, fun h => absurd h ha⟩, rfl⟩
theorem iContainsF (l : List Int) (s : Int) (hl : l.length ≤ 1000) : PSpec Tryd.prog 70 [.sl 0 encI l, .int .i64 s] (fun u => u = .bool (decide (s ∈ l))) := by
  refine PSpec.intro tt_ok mx_ok Tryd.func70 rfl (by decide) ?_; (conv => whnf)
  refine Spec.of_pure (n := 5) (iIndexF l s hl) rfl ?_
  rintro _ ⟨n, rfl, hn⟩
  conv => whnf
  refine cmpI (fun h => ?_) (fun h => ?_) <;> conv => whnf
  · exact ⟨dec_t (hn.1 h), rfl⟩
  · exact ⟨dec_f (fun hh => h (hn.2 hh)), rfl⟩
/-! ### the program's answer -/
def cntE (n : Int) (c : Cnt) : Int := orL [setE c.states n, (if c.states.length = 0 ∨ c.least < 1 ∨ 3 < c.least then 1 else 0)]
def cntsE (n : Int) (l : List Cnt) : Int := orL (l.map (cntE n))
def adjE (p : Pro) (l : List Int) : Int := if l.length = 0 then 0 else if p.topology = 1 then 6 else if l.length ≠ 2 then 1 else orL [indE (l.getD 0 0) p.states.length, indE (l.getD 1 0) p.states.length]
def propE (p : Pro) (q : Prp) : Int :=
  if validE p ≠ 0 then validE p else if ¬ validN q.name then 2 else if q.kind ≠ 1 ∧ q.kind ≠ 2 then 1
  else if (q.kind = 1 ∧ 0 < q.goal.length) ∨ (q.kind = 2 ∧ (0 < q.bad.length ∨ 0 < q.adjacent.length)) then 1
  else if setE q.start p.states.length ≠ 0 then setE q.start p.states.length
  else if ¬ (∀ j, j < q.start.length → q.start.getD j 0 ∈ p.initial) then 5
  else if q.kind = 2 then orL [setE q.goal p.states.length, (if q.goal.length = 0 then 1 else 0)]
  else orL [(if q.bad.length = 0 ∧ q.adjacent.length = 0 then 1 else 0), (if 3 < q.bad.length then 4 else 0), cntsE p.states.length q.bad, adjE p q.adjacent]

/-! ### the document's answer -/
end Go.Proofs.YtgbicnldbhfhiaaDoor
