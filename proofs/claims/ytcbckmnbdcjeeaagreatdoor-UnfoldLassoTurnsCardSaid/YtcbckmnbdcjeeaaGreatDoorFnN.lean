
/-
  Families, as plain data; small functions on lists and names.
-/
import Derived.Test.YtcbckmnbdcjeeaaGreatDoorF2
import Derived.Test.YtcbckmnbdcjeeaaGreatDoorT1
import Derived.Test.YtcbckmnbdcjeeaaGreatDoorG4
set_option linter.unusedVariables false
set_option linter.unusedSimpArgs false
namespace Go.Proofs.YtcbckmnbdcjeeaaGreatDoor
set_option maxRecDepth 100000

structure Lin where
  c : Int
  n : Int
  t : Int
  f : Int
instance decLin : DecidableEq Lin := fun a b =>
  if h : a.c = b.c ∧ a.n = b.n ∧ a.t = b.t ∧ a.f = b.f then isTrue (by cases a; cases b; simp_all) else isFalse (fun e => h (by rw [e]; exact ⟨rfl, rfl, rfl, rfl⟩))
structure Thr where
  message : Int
  coef : Int
  bound : Lin
instance decThr : DecidableEq Thr := fun a b =>
  if h : a.message = b.message ∧ a.coef = b.coef ∧ a.bound = b.bound then isTrue (by cases a; cases b; simp_all) else isFalse (fun e => h (by rw [e]; exact ⟨rfl, rfl, rfl⟩))
structure Rul where
  name : ByteArray
  kind : Int
  src : Int
  dst : Int
  pfrom : Int
  pto : Int
  response : List Int
  guards : List Thr
  some_ : List Int
  forall_ : List Int
  read : Int
  write : Int
  send : List Int
  at_ : Int
  left : List Int
  right : List Int
  parent : List Int
  direction : Int
structure Pro where
  name : ByteArray
  topology : Int
  states : List ByteArray
  messages : List ByteArray
  values : List ByteArray
  fault : Int
  resilience : List Lin
  initial : List Int
  leader : List Int
  rules : List Rul
def t0 : ByteArray := ⟨#[]⟩
def lin0 : Lin := ⟨0, 0, 0, 0⟩
def thr0 : Thr := ⟨0, 0, lin0⟩
def rul0 : Rul := ⟨t0, 0, 0, 0, 0, 0, [], [], [], [], 0, 0, [], 0, [], [], [], 0⟩
def encLin (l : Lin) : List AV := [.int .i64 l.c, .int .i64 l.n, .int .i64 l.t, .int .i64 l.f]
def encThr (g : Thr) : List AV := [.int .i64 g.message, .int .i64 g.coef, .int .i64 g.bound.c, .int .i64 g.bound.n, .int .i64 g.bound.t, .int .i64 g.bound.f]
def encR (r : Rul) : List AV := [.str r.name, .int .i64 r.kind, .int .i64 r.src, .int .i64 r.dst, .int .i64 r.pfrom, .int .i64 r.pto, .sl 0 encI r.response, .sl thr0 encThr r.guards, .sl 0 encI r.some_, .sl 0 encI r.forall_,
  .int .i64 r.read, .int .i64 r.write, .sl 0 encI r.send, .int .i64 r.at_, .sl 0 encI r.left, .sl 0 encI r.right, .sl 0 encI r.parent, .int .i64 r.direction]
def encP (p : Pro) : List AV := [.str p.name, .int .i64 p.topology, .sl t0 encT p.states, .sl t0 encT p.messages, .sl t0 encT p.values, .int .i64 p.fault, .sl lin0 encLin p.resilience, .sl 0 encI p.initial, .sl 0 encI p.leader, .sl rul0 encR p.rules]

/-! ### long lists -/
def bigR (r : Rul) : Prop := 500 < r.name.size ∨ 60 < r.response.length ∨ 60 < r.guards.length ∨ 60 < r.some_.length ∨ 60 < r.forall_.length ∨ 60 < r.send.length ∨ 60 < r.left.length ∨ 60 < r.right.length ∨ 60 < r.parent.length
instance (r : Rul) : Decidable (bigR r) := inferInstanceAs (Decidable (_ ∨ _))
theorem bigRuleF (r : Rul) : PSpec Tryz.prog 23 [.agg (encR r)] (fun u => u = .bool (decide (bigR r))) := by
  refine PSpec.intro tt_ok mx_ok Tryz.func23 rfl (by decide) ?_; (conv => whnf)
  refine boxP rfl ?_
  conv => whnf
  repeat' (first
      | (refine needI (by first | omega | (dsimp only; omega)) ?_; conv => whnf)
      | (refine arI trivial (by omega) ?_; conv => whnf)
      | (refine arU trivial (by omega) ?_; conv => whnf)
      | (refine arB trivial (by omega) ?_; conv => whnf)
      | (refine drawI (by decide +kernel) ?_; conv => whnf)
      | (refine drawR (by decide +kernel) ?_; conv => whnf)
      | (refine drawP (by decide +kernel) ?_; conv => whnf)
      | (refine boxP rfl ?_; conv => whnf)
      | (refine appI _ rfl (by first | omega | (dsimp only; omega) | (simp only [List.length_cons, List.length_nil, List.length_append]; omega)) ?_; conv => whnf)
      | (refine rowSetI _ rfl ?_; conv => whnf)
      | (refine cmpT (by omega) ?_; conv => whnf)
      | (refine cmpF (by omega) ?_; conv => whnf)
      | (refine cmpI (fun _ => ?_) (fun _ => ?_) <;> conv => whnf))
  all_goals first
    | exact ⟨dec_t (by unfold bigR; omega), rfl⟩
    | exact ⟨dec_f (by unfold bigR; omega), rfl⟩
def bigNs (l : List ByteArray) : Prop := ∃ j, j < l.length ∧ 500 < (l.getD j t0).size
instance (l : List ByteArray) : Decidable (bigNs l) := inferInstanceAs (Decidable (∃ j, j < l.length ∧ _))
theorem bigNamesF (l : List ByteArray) (hl : l.length ≤ 1000) : PSpec Tryz.prog 24 [.sl t0 encT l] (fun u => u = .bool (decide (bigNs l))) := by
  refine PSpec.intro tt_ok mx_ok Tryz.func24 rfl (by decide) ?_; (conv => whnf)
  refine WPc.loopF tt_ok mx_ok (fun k : Nat => k ≤ l.length ∧ ∀ j, j < k → ¬ 500 < (l.getD j t0).size) (fun k => [(3, .int .i64 (k : Int))]) (fun _ => []) (fun k => l.length - k) 0 ⟨by omega, fun j hj => by omega⟩ ?_; conv => whnf
  refine ⟨(Sub.id_ 400 rfl auto_ auto_), ?_⟩
  rintro k ⟨hk, ha⟩
  conv => whnf
  repeat' (first
      | (refine needI (by first | omega | (dsimp only; omega)) ?_; conv => whnf)
      | (refine arI trivial (by omega) ?_; conv => whnf)
      | (refine arU trivial (by omega) ?_; conv => whnf)
      | (refine arB trivial (by omega) ?_; conv => whnf)
      | (refine drawI (by decide +kernel) ?_; conv => whnf)
      | (refine drawR (by decide +kernel) ?_; conv => whnf)
      | (refine drawP (by decide +kernel) ?_; conv => whnf)
      | (refine boxP rfl ?_; conv => whnf)
      | (refine appI _ rfl (by first | omega | (dsimp only; omega) | (simp only [List.length_cons, List.length_nil, List.length_append]; omega)) ?_; conv => whnf)
      | (refine rowSetI _ rfl ?_; conv => whnf)
      | (refine cmpT (by omega) ?_; conv => whnf)
      | (refine cmpF (by omega) ?_; conv => whnf)
      | (refine cmpI (fun _ => ?_) (fun _ => ?_) <;> conv => whnf))
  · rename_i h1 h2
    exact ⟨dec_t ⟨k, by omega, by rw [Int.toNat_natCast] at h2; omega⟩, rfl⟩
  · rename_i h1 h2
    refine ⟨k + 1, (Sub.id_ 400 rfl auto_ auto_), ⟨by omega, fun j hj => ?_⟩, by dsimp only; omega⟩
    by_cases e : j = k
    · subst e; rw [Int.toNat_natCast] at h2; omega
    · exact ha j (by omega)
  · exact ⟨dec_f fun ⟨j, h1, h2⟩ => ha j (by omega) h2, rfl⟩

def bigP (p : Pro) : Prop := 500 < p.name.size ∨ 60 < p.states.length ∨ 60 < p.messages.length ∨ 60 < p.values.length ∨ 60 < p.resilience.length ∨ 60 < p.initial.length ∨ 60 < p.leader.length ∨ 30 < p.rules.length ∨
  (∃ j, j < p.rules.length ∧ bigR (p.rules.getD j rul0)) ∨ bigNs p.states ∨ bigNs p.messages ∨ bigNs p.values
instance (p : Pro) : Decidable (bigP p) := inferInstanceAs (Decidable (_ ∨ _))
theorem bigF (p : Pro) : PSpec Tryz.prog 7 [.agg (encP p)] (fun u => u = .bool (decide (bigP p))) := by
  refine PSpec.intro tt_ok mx_ok Tryz.func7 rfl (by decide) ?_; (conv => whnf)
  refine boxP rfl ?_
  conv => whnf
  repeat' (first
      | (refine needI (by first | omega | (dsimp only; omega)) ?_; conv => whnf)
      | (refine arI trivial (by omega) ?_; conv => whnf)
      | (refine arU trivial (by omega) ?_; conv => whnf)
      | (refine arB trivial (by omega) ?_; conv => whnf)
      | (refine drawI (by decide +kernel) ?_; conv => whnf)
      | (refine drawR (by decide +kernel) ?_; conv => whnf)
      | (refine drawP (by decide +kernel) ?_; conv => whnf)
      | (refine boxP rfl ?_; conv => whnf)
      | (refine appI _ rfl (by first | omega | (dsimp only; omega) | (simp only [List.length_cons, List.length_nil, List.length_append]; omega)) ?_; conv => whnf)
      | (refine rowSetI _ rfl ?_; conv => whnf)
      | (refine cmpT (by omega) ?_; conv => whnf)
      | (refine cmpF (by omega) ?_; conv => whnf)
      | (refine cmpI (fun _ => ?_) (fun _ => ?_) <;> conv => whnf))
  all_goals try first | exact ⟨dec_t (by unfold bigP; omega), rfl⟩ | skip
  refine WPc.loopF tt_ok mx_ok (fun k : Nat => k ≤ p.rules.length ∧ ∀ j, j < k → ¬ bigR (p.rules.getD j rul0)) (fun k => [(3, .int .i64 (k : Int))]) (fun _ => []) (fun k => p.rules.length - k) 0 ⟨by omega, fun j hj => by omega⟩ ?_; conv => whnf
  refine ⟨(Sub.id_ 400 rfl auto_ auto_), ?_⟩
  rintro k ⟨hk, ha⟩
  conv => whnf
  repeat' (first
      | (refine needI (by first | omega | (dsimp only; omega)) ?_; conv => whnf)
      | (refine arI trivial (by omega) ?_; conv => whnf)
      | (refine arU trivial (by omega) ?_; conv => whnf)
      | (refine arB trivial (by omega) ?_; conv => whnf)
      | (refine drawI (by decide +kernel) ?_; conv => whnf)
      | (refine drawR (by decide +kernel) ?_; conv => whnf)
      | (refine drawP (by decide +kernel) ?_; conv => whnf)
      | (refine boxP rfl ?_; conv => whnf)
      | (refine appI _ rfl (by first | omega | (dsimp only; omega) | (simp only [List.length_cons, List.length_nil, List.length_append]; omega)) ?_; conv => whnf)
      | (refine rowSetI _ rfl ?_; conv => whnf)
      | (refine cmpT (by omega) ?_; conv => whnf)
      | (refine cmpF (by omega) ?_; conv => whnf)
      | (refine cmpI (fun _ => ?_) (fun _ => ?_) <;> conv => whnf))
  · refine Spec.dcall (n := 5) (bigRuleF _) rfl (fun _ => ?_) (fun _ => ?_) <;> (conv => whnf)
    · rename_i h2
      exact ⟨dec_t (by unfold bigP; exact .inr (.inr (.inr (.inr (.inr (.inr (.inr (.inr (.inl ⟨k, by omega, by rw [Int.toNat_natCast] at h2; exact h2⟩))))))))), rfl⟩
    · rename_i h2
      repeat' (first
          | (refine needI (by first | omega | (dsimp only; omega)) ?_; conv => whnf)
          | (refine arI trivial (by omega) ?_; conv => whnf)
          | (refine arU trivial (by omega) ?_; conv => whnf)
          | (refine arB trivial (by omega) ?_; conv => whnf)
          | (refine drawI (by decide +kernel) ?_; conv => whnf)
          | (refine drawR (by decide +kernel) ?_; conv => whnf)
          | (refine drawP (by decide +kernel) ?_; conv => whnf)
          | (refine boxP rfl ?_; conv => whnf)
          | (refine appI _ rfl (by first | omega | (dsimp only; omega) | (simp only [List.length_cons, List.length_nil, List.length_append]; omega)) ?_; conv => whnf)
          | (refine rowSetI _ rfl ?_; conv => whnf)
          | (refine cmpT (by omega) ?_; conv => whnf)
          | (refine cmpF (by omega) ?_; conv => whnf)
          | (refine cmpI (fun _ => ?_) (fun _ => ?_) <;> conv => whnf))
      refine ⟨k + 1, (Sub.id_ 400 rfl auto_ auto_), ⟨by omega, fun j hj => ?_⟩, by dsimp only; omega⟩
      by_cases e : j = k
      · subst e; rw [Int.toNat_natCast] at h2; exact h2
      · exact ha j (by omega)
  · have hno : ¬ ∃ j, j < p.rules.length ∧ bigR (p.rules.getD j rul0) := fun ⟨j, h1, h2⟩ => ha j (by omega) h2
    refine Spec.dcall (n := 5) (bigNamesF _ (by omega)) rfl (fun _ => ?_) (fun _ => ?_) <;> (conv => whnf)
    · rename_i h; exact ⟨dec_t (by unfold bigP; exact .inr (.inr (.inr (.inr (.inr (.inr (.inr (.inr (.inr (.inl h)))))))))), rfl⟩
    refine Spec.dcall (n := 5) (bigNamesF _ (by omega)) rfl (fun _ => ?_) (fun _ => ?_) <;> (conv => whnf)
    · rename_i h; exact ⟨dec_t (by unfold bigP; exact .inr (.inr (.inr (.inr (.inr (.inr (.inr (.inr (.inr (.inr (.inl h))))))))))), rfl⟩
    refine Spec.dcall (n := 5) (bigNamesF _ (by omega)) rfl (fun _ => ?_) (fun _ => ?_) <;> (conv => whnf)
    · rename_i h; exact ⟨dec_t (by unfold bigP; exact .inr (.inr (.inr (.inr (.inr (.inr (.inr (.inr (.inr (.inr (.inr h))))))))))), rfl⟩
    · rename_i a b c
      refine ⟨dec_f ?_, rfl⟩
      unfold bigP
      rintro (h | h | h | h | h | h | h | h | h | h | h | h)
      any_goals omega
      all_goals first | exact hno h | exact a h | exact b h | exact c h
theorem bigP_le {p : Pro} (h : ¬ bigP p) : p.name.size ≤ 500 ∧ p.states.length ≤ 60 ∧ p.messages.length ≤ 60 ∧ p.values.length ≤ 60 ∧ p.resilience.length ≤ 60 ∧ p.initial.length ≤ 60 ∧ p.leader.length ≤ 60 ∧ p.rules.length ≤ 30 := by
  unfold bigP at h
  omega
theorem bigP_rule {p : Pro} (h : ¬ bigP p) {j : Nat} (hj : j < p.rules.length) : ¬ bigR (p.rules.getD j rul0) := fun hb => h (by unfold bigP; exact .inr (.inr (.inr (.inr (.inr (.inr (.inr (.inr (.inl ⟨j, hj, hb⟩)))))))))
theorem bigR_le {r : Rul} (h : ¬ bigR r) : r.name.size ≤ 500 ∧ r.response.length ≤ 60 ∧ r.guards.length ≤ 60 ∧ r.some_.length ≤ 60 ∧ r.forall_.length ≤ 60 ∧ r.send.length ≤ 60 ∧ r.left.length ≤ 60 ∧ r.right.length ≤ 60 ∧ r.parent.length ≤ 60 := by
  unfold bigR at h
  omega

/-! ### sets of indexes -/
def inR (l : List Int) (n : Int) : Prop := ∀ j, j < l.length → 0 ≤ l.getD j 0 ∧ l.getD j 0 < n
def incr (l : List Int) : Prop := ∀ j, j < l.length → 0 < j → l.getD (j - 1) 0 < l.getD j 0
instance (l : List Int) (n : Int) : Decidable (inR l n) := inferInstanceAs (Decidable (∀ j, j < l.length → _))
instance (l : List Int) : Decidable (incr l) := inferInstanceAs (Decidable (∀ j, j < l.length → _))
def setE (l : List Int) (n : Int) : Int := if inR l n then (if incr l then 0 else 1) else 5
theorem withinR (a b c : Int) : PSpec Tryz.prog 62 [.int .i64 a, .int .i64 b, .int .i64 c] (fun u => u = .bool (decide (b ≤ a ∧ a ≤ c))) := by
  refine PSpec.intro tt_ok mx_ok Tryz.func62 rfl (by decide) ?_; (conv => whnf)
  repeat' (first
      | (refine needI (by first | omega | (dsimp only; omega)) ?_; conv => whnf)
      | (refine arI trivial (by omega) ?_; conv => whnf)
      | (refine arU trivial (by omega) ?_; conv => whnf)
      | (refine arB trivial (by omega) ?_; conv => whnf)
      | (refine drawI (by decide +kernel) ?_; conv => whnf)
      | (refine drawR (by decide +kernel) ?_; conv => whnf)
      | (refine drawP (by decide +kernel) ?_; conv => whnf)
      | (refine boxP rfl ?_; conv => whnf)
      | (refine appI _ rfl (by first | omega | (dsimp only; omega) | (simp only [List.length_cons, List.length_nil, List.length_append]; omega)) ?_; conv => whnf)
      | (refine rowSetI _ rfl ?_; conv => whnf)
      | (refine cmpT (by omega) ?_; conv => whnf)
      | (refine cmpF (by omega) ?_; conv => whnf)
      | (refine cmpI (fun _ => ?_) (fun _ => ?_) <;> conv => whnf))
  all_goals first
    | exact ⟨dec_t (by omega), rfl⟩
    | exact ⟨dec_f (by omega), rfl⟩
theorem setR (l : List Int) (n : Int) (hl : l.length ≤ 1000) (hn : -1000 ≤ n ∧ n ≤ 1000) : PSpec Tryz.prog 65 [.sl 0 encI l, .int .i64 n] (fun u => u = .int .i64 (setE l n)) := by
  refine PSpec.intro tt_ok mx_ok Tryz.func65 rfl (by decide) ?_; (conv => whnf)
  refine WPc.loopF tt_ok mx_ok (fun k : Nat => k ≤ l.length ∧ ∀ j, j < k → 0 ≤ l.getD j 0 ∧ l.getD j 0 < n) (fun k => [(5, .int .i64 (k : Int))]) (fun _ => []) (fun k => l.length - k) 0 ⟨by omega, fun j hj => by omega⟩ ?_; conv => whnf
  refine ⟨(Sub.id_ 400 rfl auto_ auto_), ?_⟩
  rintro k ⟨hk, ha⟩
  conv => whnf
  repeat' (first
      | (refine needI (by first | omega | (dsimp only; omega)) ?_; conv => whnf)
      | (refine arI trivial (by omega) ?_; conv => whnf)
      | (refine arU trivial (by omega) ?_; conv => whnf)
      | (refine arB trivial (by omega) ?_; conv => whnf)
      | (refine drawI (by decide +kernel) ?_; conv => whnf)
      | (refine drawR (by decide +kernel) ?_; conv => whnf)
      | (refine drawP (by decide +kernel) ?_; conv => whnf)
      | (refine boxP rfl ?_; conv => whnf)
      | (refine appI _ rfl (by first | omega | (dsimp only; omega) | (simp only [List.length_cons, List.length_nil, List.length_append]; omega)) ?_; conv => whnf)
      | (refine rowSetI _ rfl ?_; conv => whnf)
      | (refine cmpT (by omega) ?_; conv => whnf)
      | (refine cmpF (by omega) ?_; conv => whnf)
      | (refine cmpI (fun _ => ?_) (fun _ => ?_) <;> conv => whnf))
  · refine Spec.dcall (n := 5) (withinR _ _ _) rfl (fun _ => ?_) (fun _ => ?_) <;> (conv => whnf)
    · rename_i h2
      rw [Int.toNat_natCast] at h2
      repeat' (first
          | (refine needI (by first | omega | (dsimp only; omega)) ?_; conv => whnf)
          | (refine arI trivial (by omega) ?_; conv => whnf)
          | (refine arU trivial (by omega) ?_; conv => whnf)
          | (refine arB trivial (by omega) ?_; conv => whnf)
          | (refine drawI (by decide +kernel) ?_; conv => whnf)
          | (refine drawR (by decide +kernel) ?_; conv => whnf)
          | (refine drawP (by decide +kernel) ?_; conv => whnf)
          | (refine boxP rfl ?_; conv => whnf)
          | (refine appI _ rfl (by first | omega | (dsimp only; omega) | (simp only [List.length_cons, List.length_nil, List.length_append]; omega)) ?_; conv => whnf)
          | (refine rowSetI _ rfl ?_; conv => whnf)
          | (refine cmpT (by omega) ?_; conv => whnf)
          | (refine cmpF (by omega) ?_; conv => whnf)
          | (refine cmpI (fun _ => ?_) (fun _ => ?_) <;> conv => whnf))
      refine ⟨k + 1, (Sub.id_ 400 rfl auto_ auto_), ⟨by omega, fun j hj => ?_⟩, by dsimp only; omega⟩
      by_cases e : j = k
      · subst e; omega
      · exact ha j (by omega)
    · rename_i h1 h2
      rw [Int.toNat_natCast] at h2
      refine ⟨av_int ?_, rfl⟩
      rw [setE, if_neg]
      intro h
      have := h k (by omega)
      omega
  · have hin : inR l n := fun j hj => ha j (by omega)
    refine WPc.loopF tt_ok mx_ok (fun k : Nat => 1 ≤ k ∧ (k ≤ l.length ∨ k = 1) ∧ ∀ j, j < k → j < l.length → 0 < j → l.getD (j - 1) 0 < l.getD j 0) (fun k => [(6, .int .i64 (k : Int))]) (fun _ => []) (fun k => l.length - k) 1 ⟨by omega, by omega, fun j hj => by omega⟩ ?_; conv => whnf
    refine ⟨(Sub.id_ 400 rfl auto_ auto_), ?_⟩
    rintro k ⟨hk, hk2, hb⟩
    conv => whnf
    repeat' (first
        | (refine needI (by first | omega | (dsimp only; omega)) ?_; conv => whnf)
        | (refine arI trivial (by omega) ?_; conv => whnf)
        | (refine arU trivial (by omega) ?_; conv => whnf)
        | (refine arB trivial (by omega) ?_; conv => whnf)
        | (refine drawI (by decide +kernel) ?_; conv => whnf)
        | (refine drawR (by decide +kernel) ?_; conv => whnf)
        | (refine drawP (by decide +kernel) ?_; conv => whnf)
        | (refine boxP rfl ?_; conv => whnf)
        | (refine appI _ rfl (by first | omega | (dsimp only; omega) | (simp only [List.length_cons, List.length_nil, List.length_append]; omega)) ?_; conv => whnf)
        | (refine rowSetI _ rfl ?_; conv => whnf)
        | (refine cmpT (by omega) ?_; conv => whnf)
        | (refine cmpF (by omega) ?_; conv => whnf)
        | (refine cmpI (fun _ => ?_) (fun _ => ?_) <;> conv => whnf))
    · rename_i h1 h2
      rw [Int.toNat_natCast, show ((k : Int) - 1).toNat = k - 1 by omega] at h2
      refine ⟨av_int ?_, rfl⟩
      rw [setE, if_pos hin, if_neg]
      intro h
      have := h k (by omega) (by omega)
      omega
    · rename_i h1 h2
      rw [Int.toNat_natCast, show ((k : Int) - 1).toNat = k - 1 by omega] at h2
      refine ⟨k + 1, (Sub.id_ 400 rfl auto_ auto_), ⟨by omega, by omega, fun j hj hj2 hj3 => ?_⟩, by dsimp only; omega⟩
      by_cases e : j = k
      · subst e; omega
      · exact hb j (by omega) hj2 hj3
    · refine ⟨av_int ?_, rfl⟩
      rw [setE, if_pos hin, if_pos]
      exact fun j hj h0 => hb j (by omega) hj h0
theorem setP (l : List Int) (n : Int) (hl : l.length ≤ 1000) : PSpec Tryz.prog 56 [.sl 0 encI l, .int .i64 n] (fun u => u = .int .i64 (setE l n)) := by
  refine PSpec.intro tt_ok mx_ok Tryz.func56 rfl (by decide) ?_; (conv => whnf)
  refine WPc.loopF tt_ok mx_ok (fun k : Nat => k ≤ l.length ∧ ∀ j, j < k → 0 ≤ l.getD j 0 ∧ l.getD j 0 < n) (fun k => [(10, .int .i64 (k : Int))]) (fun _ => []) (fun k => l.length - k) 0 ⟨by omega, fun j hj => by omega⟩ ?_; conv => whnf
  refine ⟨(Sub.id_ 400 rfl auto_ auto_), ?_⟩
  rintro k ⟨hk, ha⟩
  conv => whnf
  refine cmpI (fun h1 => ?_) (fun h1 => ?_) <;> conv => whnf
  · by_cases h2 : 0 ≤ l.getD (k : Int).toNat 0 ∧ l.getD (k : Int).toNat 0 < n
    · repeat' (first
          | (refine needI (by first | omega | (dsimp only; omega)) ?_; conv => whnf)
          | (refine arI trivial (by omega) ?_; conv => whnf)
          | (refine arU trivial (by omega) ?_; conv => whnf)
          | (refine arB trivial (by omega) ?_; conv => whnf)
          | (refine drawI (by decide +kernel) ?_; conv => whnf)
          | (refine drawR (by decide +kernel) ?_; conv => whnf)
          | (refine drawP (by decide +kernel) ?_; conv => whnf)
          | (refine boxP rfl ?_; conv => whnf)
          | (refine appI _ rfl (by first | omega | (dsimp only; omega) | (simp only [List.length_cons, List.length_nil, List.length_append]; omega)) ?_; conv => whnf)
          | (refine rowSetI _ rfl ?_; conv => whnf)
          | (refine cmpT (by omega) ?_; conv => whnf)
          | (refine cmpF (by omega) ?_; conv => whnf)
          | (refine cmpI (fun _ => ?_) (fun _ => ?_) <;> conv => whnf))
      rw [Int.toNat_natCast] at h2
      refine ⟨k + 1, (Sub.id_ 400 rfl auto_ auto_), ⟨by omega, fun j hj => ?_⟩, by dsimp only; omega⟩
      by_cases e : j = k
      · subst e; omega
      · exact ha j (by omega)
    · repeat' (first
          | (refine needI (by first | omega | (dsimp only; omega)) ?_; conv => whnf)
          | (refine arI trivial (by omega) ?_; conv => whnf)
          | (refine arU trivial (by omega) ?_; conv => whnf)
          | (refine arB trivial (by omega) ?_; conv => whnf)
          | (refine drawI (by decide +kernel) ?_; conv => whnf)
          | (refine drawR (by decide +kernel) ?_; conv => whnf)
          | (refine drawP (by decide +kernel) ?_; conv => whnf)
          | (refine boxP rfl ?_; conv => whnf)
          | (refine appI _ rfl (by first | omega | (dsimp only; omega) | (simp only [List.length_cons, List.length_nil, List.length_append]; omega)) ?_; conv => whnf)
          | (refine rowSetI _ rfl ?_; conv => whnf)
          | (refine cmpT (by omega) ?_; conv => whnf)
          | (refine cmpF (by omega) ?_; conv => whnf)
          | (refine cmpI (fun _ => ?_) (fun _ => ?_) <;> conv => whnf))
      all_goals
        rw [Int.toNat_natCast] at h2
        refine ⟨av_int ?_, rfl⟩
        rw [setE, if_neg]
        intro h
        have := h k (by omega)
        omega
  · have hin : inR l n := fun j hj => ha j (by omega)
    refine WPc.loopF tt_ok mx_ok (fun k : Nat => 1 ≤ k ∧ (k ≤ l.length ∨ k = 1) ∧ ∀ j, j < k → j < l.length → 0 < j → l.getD (j - 1) 0 < l.getD j 0) (fun k => [(7, .int .i64 (k : Int))]) (fun _ => []) (fun k => l.length - k) 1 ⟨by omega, by omega, fun j hj => by omega⟩ ?_; conv => whnf
    refine ⟨(Sub.id_ 400 rfl auto_ auto_), ?_⟩
    rintro k ⟨hk, hk2, hb⟩
    conv => whnf
    repeat' (first
        | (refine needI (by first | omega | (dsimp only; omega)) ?_; conv => whnf)
        | (refine arI trivial (by omega) ?_; conv => whnf)
        | (refine arU trivial (by omega) ?_; conv => whnf)
        | (refine arB trivial (by omega) ?_; conv => whnf)
        | (refine drawI (by decide +kernel) ?_; conv => whnf)
        | (refine drawR (by decide +kernel) ?_; conv => whnf)
        | (refine drawP (by decide +kernel) ?_; conv => whnf)
        | (refine boxP rfl ?_; conv => whnf)
        | (refine appI _ rfl (by first | omega | (dsimp only; omega) | (simp only [List.length_cons, List.length_nil, List.length_append]; omega)) ?_; conv => whnf)
        | (refine rowSetI _ rfl ?_; conv => whnf)
        | (refine cmpT (by omega) ?_; conv => whnf)
        | (refine cmpF (by omega) ?_; conv => whnf)
        | (refine cmpI (fun _ => ?_) (fun _ => ?_) <;> conv => whnf))
    · rename_i h1 h2
      rw [Int.toNat_natCast, show ((k : Int) - 1).toNat = k - 1 by omega] at h2
      refine ⟨av_int ?_, rfl⟩
      rw [setE, if_pos hin, if_neg]
      intro h
      have := h k (by omega) (by omega)
      omega
    · rename_i h1 h2
      rw [Int.toNat_natCast, show ((k : Int) - 1).toNat = k - 1 by omega] at h2
      refine ⟨k + 1, (Sub.id_ 400 rfl auto_ auto_), ⟨by omega, by omega, fun j hj hj2 hj3 => ?_⟩, by dsimp only; omega⟩
      by_cases e : j = k
      · subst e; omega
      · exact hb j (by omega) hj2 hj3
    · refine ⟨av_int ?_, rfl⟩
      rw [setE, if_pos hin, if_pos]
      exact fun j hj h0 => hb j (by omega) hj h0
end Go.Proofs.YtcbckmnbdcjeeaaGreatDoor
