/-
  The order of configurations.
-/
import Derived.Test.YtihligeggkpolaaFnK
namespace Go.Proofs.Ytihligeggkpolaa
set_option maxRecDepth 100000

/-- a configuration -/
structure Cfg where
  shape : List Int
  states : List Int
  correct : Int
  sent : List Int
  faulty : List Int
  value : Int
def encC (c : Cfg) : List AV := [.sl 0 encI c.shape, .sl 0 encI c.states, .int .i64 c.correct, .sl 0 encI c.sent, .sl 0 encI c.faulty, .int .i64 c.value]
def cfg0 : Cfg := ⟨[], [], 0, [], [], 0⟩
def wideB (c : Cfg) : Bool := decide (100 < c.shape.length) || decide (100 < c.states.length) || decide (100 < c.sent.length) || decide (100 < c.faulty.length)

theorem wideF (c : Cfg) : PSpec Try.prog 14 [.agg (encC c)] (fun u => u = .bool (wideB c)) := by
  refine PSpec.intro tt_ok mx_ok Try.func14 rfl (by decide) ?_; (conv => whnf)
  refine boxP rfl ?_
  conv => whnf
  repeat' (first
      | (refine needI (by first | omega | (dsimp only; omega)) ?_; conv => whnf)
      | (refine arI trivial (by omega) ?_; conv => whnf)
      | (refine arU trivial (by omega) ?_; conv => whnf)
      | (refine arB trivial (by omega) ?_; conv => whnf)
      | (refine drawI (by decide +kernel) ?_; conv => whnf)
      | (refine drawR (by decide +kernel) ?_; conv => whnf)
      | (refine boxP rfl ?_; conv => whnf)
      | (refine appI _ rfl (by first | omega | (dsimp only; omega) | (simp only [List.length_cons, List.length_nil, List.length_append]; omega)) ?_; conv => whnf)
      | (refine rowSetI _ rfl ?_; conv => whnf)
      | (refine cmpT (by omega) ?_; conv => whnf)
      | (refine cmpF (by omega) ?_; conv => whnf)
      | (refine cmpI (fun _ => ?_) (fun _ => ?_) <;> conv => whnf))
  all_goals
    refine ⟨av_bool ?_, rfl⟩
    unfold wideB
    symm
    simp
    omega
def orL : List Int → Int
  | [] => 0
  | x :: l => if x ≠ 0 then x else orL l
theorem orL_drop {l : List Int} {k : Nat} (h : k < l.length) : orL (l.drop k) = if l.getD k 0 ≠ 0 then l.getD k 0 else orL (l.drop (k + 1)) := by
  rw [drop_cons h]; rfl
theorem cmpOr (l : List Int) (hl : l.length ≤ 1000) : PSpec Try.prog 23 [.sl 0 encI l] (fun u => u = .int .i64 (orL l)) := by
  refine PSpec.intro tt_ok mx_ok Try.func23 rfl (by decide) ?_; (conv => whnf)
  refine WPc.loopF tt_ok mx_ok (fun k : Nat => k ≤ l.length ∧ orL l = orL (l.drop k)) (fun k => [(8, .int .i64 (k : Int))]) (fun _ => []) (fun k => l.length - k) 0 ⟨by omega, rfl⟩ ?_; conv => whnf
  refine ⟨(Sub.id_ 400 rfl (by repeat' (first | exact True.intro | exact rfl | (refine And.intro ?_ ?_) | ((conv => whnf); omega) | ((conv => whnf); simp only [List.length_append, List.length_cons, List.length_nil]; done) | ((conv => whnf); simp only [List.length_append, List.length_cons, List.length_nil]; omega))) (by repeat' (first | exact True.intro | exact rfl | (refine And.intro ?_ ?_) | ((conv => whnf); omega) | ((conv => whnf); simp only [List.length_append, List.length_cons, List.length_nil]; done) | ((conv => whnf); simp only [List.length_append, List.length_cons, List.length_nil]; omega)))), ?_⟩
  rintro k ⟨hk, he⟩
  conv => whnf
  repeat' (first
      | (refine needI (by first | omega | (dsimp only; omega)) ?_; conv => whnf)
      | (refine arI trivial (by omega) ?_; conv => whnf)
      | (refine arU trivial (by omega) ?_; conv => whnf)
      | (refine arB trivial (by omega) ?_; conv => whnf)
      | (refine drawI (by decide +kernel) ?_; conv => whnf)
      | (refine drawR (by decide +kernel) ?_; conv => whnf)
      | (refine boxP rfl ?_; conv => whnf)
      | (refine appI _ rfl (by first | omega | (dsimp only; omega) | (simp only [List.length_cons, List.length_nil, List.length_append]; omega)) ?_; conv => whnf)
      | (refine rowSetI _ rfl ?_; conv => whnf)
      | (refine cmpT (by omega) ?_; conv => whnf)
      | (refine cmpF (by omega) ?_; conv => whnf)
      | (refine cmpI (fun _ => ?_) (fun _ => ?_) <;> conv => whnf))
  · rename_i h1 h2
    rw [orL_drop (by omega), if_pos (by simpa using h2)] at he
    exact ⟨av_int (by rw [he]; rfl), rfl⟩
  · rename_i h1 h2
    rw [orL_drop (by omega), if_neg (by simpa using h2)] at he
    exact ⟨k + 1, (Sub.id_ 400 rfl (by repeat' (first | exact True.intro | exact rfl | (refine And.intro ?_ ?_) | ((conv => whnf); omega) | ((conv => whnf); simp only [List.length_append, List.length_cons, List.length_nil]; done) | ((conv => whnf); simp only [List.length_append, List.length_cons, List.length_nil]; omega))) (by repeat' (first | exact True.intro | exact rfl | (refine And.intro ?_ ?_) | ((conv => whnf); omega) | ((conv => whnf); simp only [List.length_append, List.length_cons, List.length_nil]; done) | ((conv => whnf); simp only [List.length_append, List.length_cons, List.length_nil]; omega)))), ⟨by omega, he⟩, by dsimp only; omega⟩
  · obtain rfl : k = l.length := by omega
    rw [List.drop_length] at he
    exact ⟨av_int he.symm, rfl⟩

def cmpC (a b : Cfg) : Int := orL [cmpL a.shape b.shape, cmpL a.states b.states, cmpL a.sent b.sent, cmpL a.faulty b.faulty, cmpZ a.correct b.correct, cmpZ a.value b.value]
theorem compareC (a b : Cfg) (ha : wideB a = false) : PSpec Try.prog 15 [.agg (encC a), .agg (encC b)] (fun u => u = .int .i64 (cmpC a b)) := by
  have h0 : a.shape.length ≤ 100 ∧ a.states.length ≤ 100 ∧ a.sent.length ≤ 100 ∧ a.faulty.length ≤ 100 := by
    unfold wideB at ha
    simp at ha
    omega
  refine PSpec.intro tt_ok mx_ok Try.func15 rfl (by decide) ?_; (conv => whnf)
  refine boxP rfl ?_
  conv => whnf
  refine boxP rfl ?_
  conv => whnf
  refine drawI (by decide +kernel) ?_
  conv => whnf
  (refine callPI 5 (slCompare a.shape b.shape (by omega)) rfl ⟨_, rfl⟩ ?_; rintro _ rfl; conv => whnf)
  (refine callPI 5 (slCompare a.states b.states (by omega)) rfl ⟨_, rfl⟩ ?_; rintro _ rfl; conv => whnf)
  (refine callPI 5 (slCompare a.sent b.sent (by omega)) rfl ⟨_, rfl⟩ ?_; rintro _ rfl; conv => whnf)
  (refine callPI 5 (slCompare a.faulty b.faulty (by omega)) rfl ⟨_, rfl⟩ ?_; rintro _ rfl; conv => whnf)
  (refine callPI 5 (cmpCompare a.correct b.correct) rfl ⟨_, rfl⟩ ?_; rintro _ rfl; conv => whnf)
  (refine callPI 5 (cmpCompare a.value b.value) rfl ⟨_, rfl⟩ ?_; rintro _ rfl; conv => whnf)
  refine leakY ?_
  conv => whnf
  (refine callPI 5 (cmpOr _ (by simp)) rfl ⟨_, rfl⟩ ?_; rintro _ rfl; conv => whnf)
  exact ⟨rfl, rfl⟩
theorem cmpL_two (a b c d : Int) : cmpL [a, b] [c, d] = orL [cmpZ a c, cmpZ b d] := by
  simp only [cmpL, orL, cmpZ]
  (repeat' split) <;> first | rfl | omega
theorem orL_app (x : Int) (l : List Int) (h : ¬ x ≠ 0) : orL (x :: l) = orL l := by rw [orL, if_neg h]
theorem compareR (a b : Cfg) (ha : wideB a = false) : PSpec Try.prog 16 [.agg (encC a), .agg (encC b)] (fun u => u = .int .i64 (cmpC a b)) := by
  have h0 : a.shape.length ≤ 100 ∧ a.states.length ≤ 100 ∧ a.sent.length ≤ 100 ∧ a.faulty.length ≤ 100 := by
    unfold wideB at ha
    simp at ha
    omega
  refine PSpec.intro tt_ok mx_ok Try.func16 rfl (by decide) ?_; (conv => whnf)
  refine boxP rfl ?_
  conv => whnf
  refine boxP rfl ?_
  conv => whnf
  (refine Spec.of_pure (n := 5) (refCompareInts a.shape b.shape (by omega)) rfl ?_; rintro _ rfl; conv => whnf)
  refine cmpI (fun h1 => ?_) (fun h1 => ?_) <;> conv => whnf
  · exact ⟨av_int (by rw [cmpC, orL, if_pos h1]), rfl⟩
  (refine Spec.of_pure (n := 5) (refCompareInts a.states b.states (by omega)) rfl ?_; rintro _ rfl; conv => whnf)
  refine cmpI (fun h2 => ?_) (fun h2 => ?_) <;> conv => whnf
  · exact ⟨av_int (by rw [cmpC, orL_app _ _ h1, orL, if_pos h2]), rfl⟩
  (refine Spec.of_pure (n := 5) (refCompareInts a.sent b.sent (by omega)) rfl ?_; rintro _ rfl; conv => whnf)
  refine cmpI (fun h3 => ?_) (fun h3 => ?_) <;> conv => whnf
  · exact ⟨av_int (by rw [cmpC, orL_app _ _ h1, orL_app _ _ h2, orL, if_pos h3]), rfl⟩
  (refine Spec.of_pure (n := 5) (refCompareInts a.faulty b.faulty (by omega)) rfl ?_; rintro _ rfl; conv => whnf)
  refine cmpI (fun h4 => ?_) (fun h4 => ?_) <;> conv => whnf
  · exact ⟨av_int (by rw [cmpC, orL_app _ _ h1, orL_app _ _ h2, orL_app _ _ h3, orL, if_pos h4]), rfl⟩
  refine Spec.hand 45 rfl ?_
  refine Spec.hand 50 rfl ?_
  (refine Spec.of_pure (n := 5) (refCompareInts [a.correct, a.value] [b.correct, b.value] (by simp)) rfl ?_; rintro _ rfl; conv => whnf)
  exact ⟨av_int (by rw [cmpL_two, cmpC, orL_app _ _ h1, orL_app _ _ h2, orL_app _ _ h3, orL_app _ _ h4]), rfl⟩

/-! ### the order -/
theorem cmpL_neg (a b : List Int) : cmpL b a = - cmpL a b := by
  induction a generalizing b with
  | nil => cases b <;> rfl
  | cons x xs ih =>
    cases b with
    | nil => rfl
    | cons y ys =>
      simp only [cmpL]
      by_cases h1 : x < y
      · rw [if_neg (by omega), if_pos h1, if_pos h1]; rfl
      · by_cases h2 : y < x
        · rw [if_pos h2, if_neg h1, if_pos h2]
        · rw [if_neg h2, if_neg h1, if_neg h1, if_neg h2, ih]
theorem cmpZ_neg (a b : Int) : cmpZ b a = - cmpZ a b := by
  unfold cmpZ
  (repeat' split) <;> first | rfl | omega
theorem orL_neg (l m : List Int) (h : m = l.map (- ·)) : orL m = - orL l := by
  subst h
  induction l with
  | nil => rfl
  | cons x l ih =>
    simp only [List.map_cons, orL]
    by_cases hx : x = 0
    · subst hx; simpa using ih
    · rw [if_pos (by omega), if_pos hx]
theorem cmpC_neg (a b : Cfg) : cmpC b a = - cmpC a b := by
  refine orL_neg _ _ ?_
  simp only [List.map_cons, List.map_nil, ← cmpL_neg, ← cmpZ_neg]
theorem cmpC_self (a : Cfg) : cmpC a a = 0 := by
  simp [cmpC, cmpL_self, orL, cmpZ]
/-- what a comparison of three says -/
def Tri (x y z : Int) : Prop := (x ≤ 0 → y ≤ 0 → z ≤ 0) ∧ (x = 0 → y = 0 → z = 0) ∧ (x < 0 → y ≤ 0 → z < 0) ∧ (x ≤ 0 → y < 0 → z < 0)
theorem Tri.or {x y z : Int} {xs ys zs : List Int} (h : Tri x y z) (h' : Tri (orL xs) (orL ys) (orL zs)) : Tri (orL (x :: xs)) (orL (y :: ys)) (orL (z :: zs)) := by
  obtain ⟨a1, a2, a3, a4⟩ := h
  obtain ⟨b1, b2, b3, b4⟩ := h'
  simp only [orL]
  refine ⟨?_, ?_, ?_, ?_⟩ <;> (repeat' split) <;> omega
theorem Tri.z (a b c : Int) : Tri (cmpZ a b) (cmpZ b c) (cmpZ a c) := by
  unfold Tri cmpZ
  refine ⟨?_, ?_, ?_, ?_⟩ <;> (repeat' split) <;> omega
theorem Tri.l (a b c : List Int) : Tri (cmpL a b) (cmpL b c) (cmpL a c) := by
  have tr := cmpL_ord.trans a b c
  have e1 : cmpL a b = 0 → cmpL a c = cmpL b c := fun h => by rw [cmpL_eq h]
  have e2 : cmpL b c = 0 → cmpL a c = cmpL a b := fun h => by rw [cmpL_eq h]
  have e3 : cmpL a c = 0 → cmpL b c = - cmpL a b := fun h => by rw [cmpL_eq h, ← cmpL_neg]
  refine ⟨tr, ?_, ?_, ?_⟩ <;> omega
theorem cmpC_tri (a b c : Cfg) : Tri (cmpC a b) (cmpC b c) (cmpC a c) :=
  .or (.l _ _ _) (.or (.l _ _ _) (.or (.l _ _ _) (.or (.l _ _ _) (.or (.z _ _ _) (.or (.z _ _ _) ⟨by decide, by decide, by decide, by decide⟩)))))
theorem orL_b : ∀ (l : List Int), (∀ x ∈ l, -1 ≤ x ∧ x ≤ 1) → -1 ≤ orL l ∧ orL l ≤ 1
  | [], _ => by decide
  | x :: l, h => by
    have h1 := h x List.mem_cons_self
    have h2 := orL_b l fun y hy => h y (List.mem_cons_of_mem _ hy)
    simp only [orL]
    split <;> omega
theorem cmpL_b : ∀ (a b : List Int), -1 ≤ cmpL a b ∧ cmpL a b ≤ 1
  | [], [] => by decide
  | [], _ :: _ => by simp [cmpL]
  | _ :: _, [] => by simp [cmpL]
  | x :: xs, y :: ys => by
    have := cmpL_b xs ys
    simp only [cmpL]
    (repeat' split) <;> omega
theorem cmpZ_b (a b : Int) : -1 ≤ cmpZ a b ∧ cmpZ a b ≤ 1 := by
  unfold cmpZ
  (repeat' split) <;> omega
theorem cmpC_b (a b : Cfg) : -1 ≤ cmpC a b ∧ cmpC a b ≤ 1 := by
  refine orL_b _ fun x hx => ?_
  simp only [List.mem_cons, List.not_mem_nil, or_false] at hx
  rcases hx with rfl | rfl | rfl | rfl | rfl | rfl
  · exact cmpL_b _ _
  · exact cmpL_b _ _
  · exact cmpL_b _ _
  · exact cmpL_b _ _
  · exact cmpZ_b _ _
  · exact cmpZ_b _ _

theorem lawCompares (a b c : Cfg) : PSpec Try.prog 6 [.agg (encC a), .agg (encC b), .agg (encC c)] (fun u => u = .bool true) := by
  refine PSpec.intro tt_ok mx_ok Try.func6 rfl (by decide) ?_; (conv => whnf)
  refine boxP rfl ?_
  conv => whnf
  refine boxP rfl ?_
  conv => whnf
  refine boxP rfl ?_
  conv => whnf
  (refine Spec.of_pure (n := 5) (wideF a) rfl ?_; rintro _ rfl; conv => whnf)
  cases hwa : wideB a with
  | true =>
    conv => whnf
    (refine Spec.of_pure (n := 5) (knownF) rfl ?_; rintro _ rfl; conv => whnf)
    exact ⟨rfl, rfl⟩
  | false =>
    conv => whnf
    (refine Spec.of_pure (n := 5) (wideF b) rfl ?_; rintro _ rfl; conv => whnf)
    cases hwb : wideB b with
    | true =>
      conv => whnf
      (refine Spec.of_pure (n := 5) (knownF) rfl ?_; rintro _ rfl; conv => whnf)
      exact ⟨rfl, rfl⟩
    | false =>
      conv => whnf
      (refine Spec.of_pure (n := 5) (wideF c) rfl ?_; rintro _ rfl; conv => whnf)
      cases hwc : wideB c with
      | true =>
        conv => whnf
        (refine Spec.of_pure (n := 5) (knownF) rfl ?_; rintro _ rfl; conv => whnf)
        exact ⟨rfl, rfl⟩
      | false =>
        conv => whnf
        refine drawI (by decide +kernel) ?_
        conv => whnf
        (refine callPI 5 (compareC a b hwa) rfl ⟨_, rfl⟩ ?_; rintro _ rfl; conv => whnf)
        (refine callPI 5 (compareC b c hwb) rfl ⟨_, rfl⟩ ?_; rintro _ rfl; conv => whnf)
        (refine callPI 5 (compareC a c hwa) rfl ⟨_, rfl⟩ ?_; rintro _ rfl; conv => whnf)
        (refine Spec.of_pure (n := 5) (compareR a b hwa) rfl ?_; rintro _ rfl; conv => whnf)
        have hb := cmpC_b a b
        refine cmpT rfl ?_
        conv => whnf
        (refine Spec.of_pure (n := 5) (compareC b a hwb) rfl ?_; rintro _ rfl; conv => whnf)
        refine arI trivial (by omega) ?_
        conv => whnf
        refine cmpT (by rw [cmpC_neg a b]; omega) ?_
        conv => whnf
        (refine Spec.of_pure (n := 5) (compareC a a hwa) rfl ?_; rintro _ rfl; conv => whnf)
        refine cmpT (cmpC_self a) ?_
        conv => whnf
        have tr := (cmpC_tri a b c).1
        repeat' (first
            | (refine needI (by first | omega | (dsimp only; omega)) ?_; conv => whnf)
            | (refine arI trivial (by omega) ?_; conv => whnf)
            | (refine arU trivial (by omega) ?_; conv => whnf)
            | (refine arB trivial (by omega) ?_; conv => whnf)
            | (refine drawI (by decide +kernel) ?_; conv => whnf)
            | (refine drawR (by decide +kernel) ?_; conv => whnf)
            | (refine boxP rfl ?_; conv => whnf)
            | (refine appI _ rfl (by first | omega | (dsimp only; omega) | (simp only [List.length_cons, List.length_nil, List.length_append]; omega)) ?_; conv => whnf)
            | (refine rowSetI _ rfl ?_; conv => whnf)
            | (refine cmpT (by omega) ?_; conv => whnf)
            | (refine cmpF (by omega) ?_; conv => whnf)
            | (refine cmpI (fun _ => ?_) (fun _ => ?_) <;> conv => whnf))
        all_goals
          (refine Spec.of_pure (n := 5) (knownF) rfl ?_; rintro _ rfl; conv => whnf)
          exact ⟨rfl, rfl⟩
end Go.Proofs.Ytihligeggkpolaa
