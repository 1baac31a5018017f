
/-
  Demands on other processes and on neighbors, by the program and by the document's answer.
-/
import Derived.Test.YtcbckmnbdcjeeaaGreatDoorFoH
set_option linter.unusedVariables false
set_option linter.unusedSimpArgs false
namespace Go.Proofs.YtcbckmnbdcjeeaaGreatDoor
set_option maxRecDepth 100000
set_option maxHeartbeats 8000000

/-- another process below k is in one of the states -/
def exK (c : Cfg) (l : List Int) (i : Int) (k : Nat) : Prop := l.length = 0 ∨ ∃ j, j < k ∧ (j : Int) ≠ i ∧ c.states.getD j 0 ∈ l
/-- all other processes below k are in the states -/
def faK (c : Cfg) (l : List Int) (i : Int) (k : Nat) : Prop := l.length = 0 ∨ ∀ j, j < k → (j : Int) ≠ i → c.states.getD j 0 ∈ l
def othB (c : Cfg) (r : Rul) (i : Int) : Prop := exK c r.some_ i c.states.length ∧ faK c r.forall_ i c.states.length
noncomputable instance decOth (c : Cfg) (r : Rul) (i : Int) : Decidable (othB c r i) := Classical.propDecidable _
section
variable {c : Cfg} {l : List Int} {i : Int} {k : Nat}
theorem exK_zero : exK c l i 0 ↔ l.length = 0 := ⟨fun h => h.elim id (fun ⟨j, hj, _⟩ => by omega), .inl⟩
theorem faK_zero : faK c l i 0 := .inr fun j hj => by omega
theorem exK_skip (h : (k : Int) = i) : exK c l i (k + 1) ↔ exK c l i k :=
  ⟨fun h1 => h1.elim .inl (fun ⟨j, hj, hn, hm⟩ => .inr ⟨j, by omega, hn, hm⟩), fun h1 => h1.elim .inl (fun ⟨j, hj, hn, hm⟩ => .inr ⟨j, by omega, hn, hm⟩)⟩
theorem faK_skip (h : (k : Int) = i) : faK c l i (k + 1) ↔ faK c l i k :=
  ⟨fun h1 => h1.elim .inl (fun h2 => .inr fun j hj hn => h2 j (by omega) hn), fun h1 => h1.elim .inl (fun h2 => .inr fun j hj hn => h2 j (by omega) hn)⟩
theorem exK_old (h : exK c l i k) : exK c l i (k + 1) := h.elim .inl (fun ⟨j, hj, hn, hm⟩ => .inr ⟨j, by omega, hn, hm⟩)
theorem exK_new (h : (k : Int) ≠ i) (hm : c.states.getD k 0 ∈ l) : exK c l i (k + 1) := .inr ⟨k, by omega, h, hm⟩
theorem exK_no (h : ¬ exK c l i k) (hm : c.states.getD k 0 ∉ l) : ¬ exK c l i (k + 1) := fun h1 => h1.elim (fun e => h (.inl e)) (fun ⟨j, hj, hn, hmm⟩ => by
  by_cases e : j = k
  · subst e; exact hm hmm
  · exact h (.inr ⟨j, by omega, hn, hmm⟩))
theorem faK_old (h : ¬ faK c l i k) : ¬ faK c l i (k + 1) := fun h1 => h (h1.elim .inl (fun h2 => .inr fun j hj hn => h2 j (by omega) hn))
theorem faK_nil (h : l.length = 0) : faK c l i k := .inl h
theorem faK_new (h : faK c l i k) (hm : c.states.getD k 0 ∈ l) : faK c l i (k + 1) := h.elim .inl (fun h2 => .inr fun j hj hn => by
  by_cases e : j = k
  · subst e; exact hm
  · exact h2 j (by omega) hn)
theorem faK_no (h0 : ¬ l.length = 0) (h : (k : Int) ≠ i) (hm : c.states.getD k 0 ∉ l) : ¬ faK c l i (k + 1) := fun h1 => h1.elim h0 (fun h2 => hm (h2 k (by omega) h))
end
theorem iffT {p : Prop} (h : p) : (true = true ↔ p) := ⟨fun _ => h, fun _ => rfl⟩
theorem iffF {p : Prop} (h : ¬ p) : (false = true ↔ p) := ⟨fun e => (by cases e), fun e => absurd e h⟩
theorem nIff {p : Prop} (h : false = true ↔ p) : ¬ p := fun hp => by have := h.2 hp; cases this
theorem othersV (p : Pro) (s : Siz) (c : Cfg) (r : Rul) (i : Int) (hw : wideB c = false) (hr : ¬ bigR r) : PSpec Tryz.prog 125 [.agg (encV p s c), .agg (encR r), .int .i64 i] (fun u => u = .bool (decide (othB c r i))) := by
  have hbr := bigR_le hr
  have hc := wide_le hw
  refine PSpec.intro tt_ok mx_ok Tryz.func125 rfl (by decide) ?_; (conv => whnf)
  refine boxP rfl ?_
  conv => whnf
  refine boxP rfl ?_
  conv => whnf
  refine cmpD ?_
  conv => whnf
  refine WPc.loopF tt_ok mx_ok (fun x : Nat × Bool × Bool => x.1 ≤ c.states.length ∧ (x.2.1 = true ↔ exK c r.some_ i x.1) ∧ (x.2.2 = true ↔ faK c r.forall_ i x.1)) (fun x => [(19, .int .i64 (x.1 : Int)), (7, .bool x.2.1), (8, .bool x.2.2)]) (fun _ => []) (fun x => c.states.length - x.1) (0, decide ((r.some_.length : Int) = 0), true) ⟨Nat.zero_le _, by rw [exK_zero, decide_eq_true_iff]; omega, iffT faK_zero⟩ ?_; conv => whnf
  refine ⟨(Sub.id_ 400 rfl auto_ auto_), ?_⟩
  rintro ⟨k, e, a⟩ ⟨hk, he, ha⟩
  dsimp only at hk he ha ⊢
  cases e <;> cases a
  all_goals
    conv => whnf
    refine cmpI (fun h1 => ?_) (fun h1 => ?_) <;> conv => whnf
  case' false.false.refine_2 => exact ⟨dec_f (fun hh => nIff he (by rw [show k = c.states.length by omega]; exact hh.1)), rfl⟩
  case' false.true.refine_2 => exact ⟨dec_f (fun hh => nIff he (by rw [show k = c.states.length by omega]; exact hh.1)), rfl⟩
  case' true.false.refine_2 => exact ⟨dec_f (fun hh => nIff ha (by rw [show k = c.states.length by omega]; exact hh.2)), rfl⟩
  case' true.true.refine_2 => exact ⟨dec_t ⟨by have := he.1 rfl; rwa [show k = c.states.length by omega] at this, by have := ha.1 rfl; rwa [show k = c.states.length by omega] at this⟩, rfl⟩
  all_goals
    refine needI (by omega) ?_
    rw [Int.toNat_natCast]
    conv => whnf
    refine cmpI (fun h2 => ?_) (fun h2 => ?_) <;> conv => whnf
    case refine_1 =>
      repeat' (first
          | (refine needI (by first | omega | (dsimp only; omega)) ?_; conv => whnf)
          | (refine arI trivial (by omega) ?_; conv => whnf)
          | (refine cmpT (by omega) ?_; conv => whnf)
          | (refine cmpF (by omega) ?_; conv => whnf)
          | fail)
      exact ⟨(k + 1, _, _), (Sub.id_ 400 rfl auto_ auto_), ⟨by dsimp only; omega, he.trans (exK_skip h2).symm, ha.trans (faK_skip h2).symm⟩, by dsimp only; omega⟩
  case' false.false.refine_1 =>
    refine Spec.dcall (n := 5) (iContainsF r.some_ _ (by omega)) rfl (fun _ => ?_) (fun _ => ?_) <;> (conv => whnf)
    case' refine_1 => have hE := iffT (exK_new h2 (by assumption))
    case' refine_2 => have hE := iffF (exK_no (nIff he) (by assumption))
  case' false.true.refine_1 =>
    refine Spec.dcall (n := 5) (iContainsF r.some_ _ (by omega)) rfl (fun _ => ?_) (fun _ => ?_) <;> (conv => whnf)
    case' refine_1 => have hE := iffT (exK_new h2 (by assumption))
    case' refine_2 => have hE := iffF (exK_no (nIff he) (by assumption))
  case' true.false.refine_1 => have hE := iffT (exK_old (he.1 rfl))
  case' true.true.refine_1 => have hE := iffT (exK_old (he.1 rfl))
  all_goals first
    | (refine cmpI (fun h3 => ?_) (fun h3 => ?_) <;> conv => whnf
       · repeat' (first
             | (refine needI (by first | omega | (dsimp only; omega)) ?_; conv => whnf)
             | (refine arI trivial (by omega) ?_; conv => whnf)
             | (refine cmpT (by omega) ?_; conv => whnf)
             | (refine cmpF (by omega) ?_; conv => whnf)
             | fail)
         exact ⟨(k + 1, _, _), (Sub.id_ 400 rfl auto_ auto_), ⟨by dsimp only; omega, hE, iffT (faK_nil (by omega))⟩, by dsimp only; omega⟩
       · refine Spec.dcall (n := 5) (iContainsF r.forall_ _ (by omega)) rfl (fun _ => ?_) (fun _ => ?_) <;> (conv => whnf)
         · rename_i h4
           repeat' (first
               | (refine needI (by first | omega | (dsimp only; omega)) ?_; conv => whnf)
               | (refine arI trivial (by omega) ?_; conv => whnf)
               | (refine cmpT (by omega) ?_; conv => whnf)
               | (refine cmpF (by omega) ?_; conv => whnf)
               | fail)
           exact ⟨(k + 1, _, _), (Sub.id_ 400 rfl auto_ auto_), ⟨by dsimp only; omega, hE, iffT (faK_new (ha.1 rfl) h4)⟩, by dsimp only; omega⟩
         · rename_i h4
           repeat' (first
               | (refine needI (by first | omega | (dsimp only; omega)) ?_; conv => whnf)
               | (refine arI trivial (by omega) ?_; conv => whnf)
               | (refine cmpT (by omega) ?_; conv => whnf)
               | (refine cmpF (by omega) ?_; conv => whnf)
               | fail)
           exact ⟨(k + 1, _, _), (Sub.id_ 400 rfl auto_ auto_), ⟨by dsimp only; omega, hE, iffF (faK_no (by omega) h2 h4)⟩, by dsimp only; omega⟩)
    | (skip
       repeat' (first
           | (refine needI (by first | omega | (dsimp only; omega)) ?_; conv => whnf)
           | (refine arI trivial (by omega) ?_; conv => whnf)
           | (refine cmpT (by omega) ?_; conv => whnf)
           | (refine cmpF (by omega) ?_; conv => whnf)
           | fail)
       exact ⟨(k + 1, _, _), (Sub.id_ 400 rfl auto_ auto_), ⟨by dsimp only; omega, hE, iffF (faK_old (nIff ha))⟩, by dsimp only; omega⟩)
/-- a demand on a neighbor -/
def demB (c : Cfg) (l : List Int) (x : Int) : Prop := l.length = 0 ∨ (0 ≤ x ∧ c.states.getD x.toNat 0 ∈ l)
noncomputable instance decDem (c : Cfg) (l : List Int) (x : Int) : Decidable (demB c l x) := Classical.propDecidable _
theorem nearV (p : Pro) (s : Siz) (c : Cfg) (l : List Int) (x : Int) (hl : l.length ≤ 60) (hx : x < c.states.length) (hw : wideB c = false) : PSpec Tryz.prog 127 [.agg (encV p s c), .sl 0 encI l, .int .i64 x] (fun u => u = .bool (decide (demB c l x))) := by
  have hc := wide_le hw
  refine PSpec.intro tt_ok mx_ok Tryz.func127 rfl (by decide) ?_; (conv => whnf)
  refine boxP rfl ?_
  conv => whnf
  refine cmpI (fun h1 => ?_) (fun h1 => ?_) <;> conv => whnf
  · exact ⟨dec_t (.inl (by omega)), rfl⟩
  refine cmpI (fun h2 => ?_) (fun h2 => ?_) <;> conv => whnf
  · refine needI (by omega) ?_
    conv => whnf
    refine Spec.dcall (n := 5) (iContainsF l _ (by omega)) rfl (fun _ => ?_) (fun _ => ?_) <;> (conv => whnf)
    · rename_i h3; exact ⟨dec_t (.inr ⟨h2, h3⟩), rfl⟩
    · rename_i h3; exact ⟨dec_f (fun h => h.elim (by omega) (fun h => h3 h.2)), rfl⟩
  · exact ⟨dec_f (fun h => h.elim (by omega) (fun h => h2 h.1)), rfl⟩
theorem allowedR (c : Cfg) (l : List Int) (x : Int) (hl : l.length ≤ 60) (hx : x < c.states.length) (hw : wideB c = false) : PSpec Tryz.prog 138 [.agg (encC c), .sl 0 encI l, .int .i64 x] (fun u => u = .bool (decide (demB c l x))) := by
  have hc := wide_le hw
  refine PSpec.intro tt_ok mx_ok Tryz.func138 rfl (by decide) ?_; (conv => whnf)
  refine boxP rfl ?_
  conv => whnf
  refine cmpI (fun h1 => ?_) (fun h1 => ?_) <;> conv => whnf
  · exact ⟨dec_t (.inl (by omega)), rfl⟩
  refine cmpI (fun h2 => ?_) (fun h2 => ?_) <;> conv => whnf
  · refine needI (by omega) ?_
    conv => whnf
    refine Spec.dcall (n := 5) (hasR l _ (by omega)) rfl (fun _ => ?_) (fun _ => ?_) <;> (conv => whnf)
    · rename_i h3; exact ⟨dec_t (.inr ⟨h2, h3⟩), rfl⟩
    · rename_i h3; exact ⟨dec_f (fun h => h.elim (by omega) (fun h => h3 h.2)), rfl⟩
  · exact ⟨dec_f (fun h => h.elim (by omega) (fun h => h2 h.1)), rfl⟩
end Go.Proofs.YtcbckmnbdcjeeaaGreatDoor
