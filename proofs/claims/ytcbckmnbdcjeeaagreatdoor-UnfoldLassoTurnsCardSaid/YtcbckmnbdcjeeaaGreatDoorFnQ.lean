
/-
  The errors of the parts of a rule.
-/
import Derived.Test.YtcbckmnbdcjeeaaGreatDoorFnP
import Derived.Test.YtcbckmnbdcjeeaaGreatDoorF2
set_option linter.unusedVariables false
set_option linter.unusedSimpArgs false
namespace Go.Proofs.YtcbckmnbdcjeeaaGreatDoor
set_option maxRecDepth 100000
set_option maxHeartbeats 4000000

theorem firstF (l : List Int) (hl : l.length ≤ 1000) : PSpec Tryz.prog 55 [.sl 0 encI l] (fun u => u = .int .i64 (orL l)) := by
  refine PSpec.intro tt_ok mx_ok Tryz.func55 rfl (by decide) ?_; (conv => whnf)
  refine WPc.loopF tt_ok mx_ok (fun k : Nat => k ≤ l.length ∧ orL l = orL (l.drop k)) (fun k => [(7, .int .i64 (k : Int))]) (fun _ => []) (fun k => l.length - k) 0 ⟨by omega, rfl⟩ ?_; conv => whnf
  refine ⟨(Sub.id_ 400 rfl auto_ auto_), ?_⟩
  rintro k ⟨hk, he⟩
  conv => whnf
  repeat' (first
      | (refine needI (by first | omega | (dsimp only; omega)) ?_; conv => whnf)
      | (refine arI trivial (by omega) ?_; conv => whnf)
      | (refine arU trivial (by omega) ?_; conv => whnf)
      | (refine arB trivial (by omega) ?_; conv => whnf)
      | (refine drawI (by decide +kernel) ?_; conv => whnf)
      | (refine drawR (by decide +kernel) ?_; conv => whnf)
      | (refine drawP (by decide +kernel) ?_; conv => whnf)
      | (refine boxP rfl ?_; conv => whnf)
      | (refine appI _ rfl (by first | omega | (dsimp only; omega) | (simp only [List.length_cons, List.length_nil, List.length_append]; omega)) ?_; conv => whnf)
      | (refine rowSetI _ rfl ?_; conv => whnf)
      | (refine cmpT (by omega) ?_; conv => whnf)
      | (refine cmpF (by omega) ?_; conv => whnf)
      | (refine cmpI (fun _ => ?_) (fun _ => ?_) <;> conv => whnf))
  · rename_i h1 h2
    rw [orL_drop (by omega), if_pos (by simpa using h2)] at he
    exact ⟨av_int (by rw [he]; rfl), rfl⟩
  · rename_i h1 h2
    rw [orL_drop (by omega), if_neg (by simpa using h2)] at he
    exact ⟨k + 1, (Sub.id_ 400 rfl auto_ auto_), ⟨by omega, he⟩, by dsimp only; omega⟩
  · obtain rfl : k = l.length := by omega
    rw [List.drop_length] at he
    exact ⟨av_int he.symm, rfl⟩
theorem whenT (e : Int) : PSpec Tryz.prog 57 [.bool true, .int .i64 e] (fun u => u = .int .i64 e) := by
  refine PSpec.intro tt_ok mx_ok Tryz.func57 rfl (by decide) ?_; (conv => whnf)
  exact ⟨rfl, rfl⟩
theorem whenF (e : Int) : PSpec Tryz.prog 57 [.bool false, .int .i64 e] (fun u => u = .int .i64 0) := by
  refine PSpec.intro tt_ok mx_ok Tryz.func57 rfl (by decide) ?_; (conv => whnf)
  exact ⟨rfl, rfl⟩
def indE (i n : Int) : Int := if i < 0 ∨ n ≤ i then 5 else 0
theorem indexF (i n : Int) : PSpec Tryz.prog 106 [.int .i64 i, .int .i64 n] (fun u => u = .int .i64 (indE i n)) := by
  refine PSpec.intro tt_ok mx_ok Tryz.func106 rfl (by decide) ?_; (conv => whnf)
  by_cases h : i < 0 ∨ n ≤ i
  · rw [indE, if_pos h]
    repeat' (first
        | (refine needI (by first | omega | (dsimp only; omega)) ?_; conv => whnf)
        | (refine arI trivial (by omega) ?_; conv => whnf)
        | (refine arU trivial (by omega) ?_; conv => whnf)
        | (refine arB trivial (by omega) ?_; conv => whnf)
        | (refine drawI (by decide +kernel) ?_; conv => whnf)
        | (refine drawR (by decide +kernel) ?_; conv => whnf)
        | (refine drawP (by decide +kernel) ?_; conv => whnf)
        | (refine boxP rfl ?_; conv => whnf)
        | (refine appI _ rfl (by first | omega | (dsimp only; omega) | (simp only [List.length_cons, List.length_nil, List.length_append]; omega)) ?_; conv => whnf)
        | (refine rowSetI _ rfl ?_; conv => whnf)
        | (refine cmpT (by omega) ?_; conv => whnf)
        | (refine cmpF (by omega) ?_; conv => whnf)
        | (refine cmpI (fun _ => ?_) (fun _ => ?_) <;> conv => whnf))
    all_goals
      (refine Spec.of_pure (n := 5) (whenT 5) rfl ?_; rintro _ rfl; conv => whnf)
      exact ⟨rfl, rfl⟩
  · rw [indE, if_neg h]
    repeat' (first
        | (refine needI (by first | omega | (dsimp only; omega)) ?_; conv => whnf)
        | (refine arI trivial (by omega) ?_; conv => whnf)
        | (refine arU trivial (by omega) ?_; conv => whnf)
        | (refine arB trivial (by omega) ?_; conv => whnf)
        | (refine drawI (by decide +kernel) ?_; conv => whnf)
        | (refine drawR (by decide +kernel) ?_; conv => whnf)
        | (refine drawP (by decide +kernel) ?_; conv => whnf)
        | (refine boxP rfl ?_; conv => whnf)
        | (refine appI _ rfl (by first | omega | (dsimp only; omega) | (simp only [List.length_cons, List.length_nil, List.length_append]; omega)) ?_; conv => whnf)
        | (refine rowSetI _ rfl ?_; conv => whnf)
        | (refine cmpT (by omega) ?_; conv => whnf)
        | (refine cmpF (by omega) ?_; conv => whnf)
        | (refine cmpI (fun _ => ?_) (fun _ => ?_) <;> conv => whnf))
    (refine Spec.of_pure (n := 5) (whenF 5) rfl ?_; rintro _ rfl; conv => whnf)
    exact ⟨rfl, rfl⟩
def facB (n : Int) : Prop := -100 ≤ n ∧ n ≤ 100
instance (n : Int) : Decidable (facB n) := inferInstanceAs (Decidable (_ ∧ _))
def bndB (l : Lin) : Prop := facB l.c ∧ facB l.n ∧ facB l.t ∧ facB l.f
instance (l : Lin) : Decidable (bndB l) := inferInstanceAs (Decidable (_ ∧ _))
theorem factorF (n : Int) : PSpec Tryz.prog 101 [.int .i64 n] (fun u => u = .bool (decide (facB n))) := by
  refine PSpec.intro tt_ok mx_ok Tryz.func101 rfl (by decide) ?_; (conv => whnf)
  repeat' (first
      | (refine needI (by first | omega | (dsimp only; omega)) ?_; conv => whnf)
      | (refine arI trivial (by omega) ?_; conv => whnf)
      | (refine arU trivial (by omega) ?_; conv => whnf)
      | (refine arB trivial (by omega) ?_; conv => whnf)
      | (refine drawI (by decide +kernel) ?_; conv => whnf)
      | (refine drawR (by decide +kernel) ?_; conv => whnf)
      | (refine drawP (by decide +kernel) ?_; conv => whnf)
      | (refine boxP rfl ?_; conv => whnf)
      | (refine appI _ rfl (by first | omega | (dsimp only; omega) | (simp only [List.length_cons, List.length_nil, List.length_append]; omega)) ?_; conv => whnf)
      | (refine rowSetI _ rfl ?_; conv => whnf)
      | (refine cmpT (by omega) ?_; conv => whnf)
      | (refine cmpF (by omega) ?_; conv => whnf)
      | (refine cmpI (fun _ => ?_) (fun _ => ?_) <;> conv => whnf))
  all_goals first
    | exact ⟨dec_t (by unfold facB; omega), rfl⟩
    | exact ⟨dec_f (by unfold facB; omega), rfl⟩
theorem boundedF (l : Lin) : PSpec Tryz.prog 54 [.agg (encLin l)] (fun u => u = .bool (decide (bndB l))) := by
  refine PSpec.intro tt_ok mx_ok Tryz.func54 rfl (by decide) ?_; (conv => whnf)
  refine boxP rfl ?_
  conv => whnf
  refine Spec.dcall (n := 5) (factorF _) rfl (fun _ => ?_) (fun _ => ?_) <;> (conv => whnf)
  · refine Spec.dcall (n := 5) (factorF _) rfl (fun _ => ?_) (fun _ => ?_) <;> (conv => whnf)
    · refine Spec.dcall (n := 5) (factorF _) rfl (fun _ => ?_) (fun _ => ?_) <;> (conv => whnf)
      · refine Spec.dcall (n := 5) (factorF _) rfl (fun _ => ?_) (fun _ => ?_) <;> (conv => whnf)
        · exact ⟨dec_t ⟨by assumption, by assumption, by assumption, by assumption⟩, rfl⟩
        · rename_i h; exact ⟨dec_f (fun hh => h hh.2.2.2), rfl⟩
      · rename_i h; exact ⟨dec_f (fun hh => h hh.2.2.1), rfl⟩
    · rename_i h; exact ⟨dec_f (fun hh => h hh.2.1), rfl⟩
  · rename_i h; exact ⟨dec_f (fun hh => h hh.1), rfl⟩
theorem fewR (l : Lin) : PSpec Tryz.prog 64 [.agg (encLin l)] (fun u => u = .bool (decide (bndB l))) := by
  refine PSpec.intro tt_ok mx_ok Tryz.func64 rfl (by decide) ?_; (conv => whnf)
  refine boxP rfl ?_
  conv => whnf
  refine Spec.dcall (n := 5) (withinR _ _ _) rfl (fun _ => ?_) (fun _ => ?_) <;> (conv => whnf)
  · refine Spec.dcall (n := 5) (withinR _ _ _) rfl (fun _ => ?_) (fun _ => ?_) <;> (conv => whnf)
    · refine Spec.dcall (n := 5) (withinR _ _ _) rfl (fun _ => ?_) (fun _ => ?_) <;> (conv => whnf)
      · refine Spec.dcall (n := 5) (withinR _ _ _) rfl (fun _ => ?_) (fun _ => ?_) <;> (conv => whnf)
        · exact ⟨dec_t ⟨by assumption, by assumption, by assumption, by assumption⟩, rfl⟩
        · rename_i h; exact ⟨dec_f (fun hh => h hh.2.2.2), rfl⟩
      · rename_i h; exact ⟨dec_f (fun hh => h hh.2.2.1), rfl⟩
    · rename_i h; exact ⟨dec_f (fun hh => h hh.2.1), rfl⟩
  · rename_i h; exact ⟨dec_f (fun hh => h hh.1), rfl⟩
def fitB (k t : Int) : Prop := (k = 1 ∨ k = 2 ∨ k = 3) ∧ t = 1 ∨ (k = 4 ∨ k = 5) ∧ t ≠ 1
instance (k t : Int) : Decidable (fitB k t) := inferInstanceAs (Decidable (_ ∨ _))
theorem fitsF (k t : Int) : PSpec Tryz.prog 104 [.int .i64 k, .int .i64 t] (fun u => u = .bool (decide (fitB k t))) := by
  refine PSpec.intro tt_ok mx_ok Tryz.func104 rfl (by decide) ?_; (conv => whnf)
  repeat' (first
      | (refine needI (by first | omega | (dsimp only; omega)) ?_; conv => whnf)
      | (refine arI trivial (by omega) ?_; conv => whnf)
      | (refine arU trivial (by omega) ?_; conv => whnf)
      | (refine arB trivial (by omega) ?_; conv => whnf)
      | (refine drawI (by decide +kernel) ?_; conv => whnf)
      | (refine drawR (by decide +kernel) ?_; conv => whnf)
      | (refine drawP (by decide +kernel) ?_; conv => whnf)
      | (refine boxP rfl ?_; conv => whnf)
      | (refine appI _ rfl (by first | omega | (dsimp only; omega) | (simp only [List.length_cons, List.length_nil, List.length_append]; omega)) ?_; conv => whnf)
      | (refine rowSetI _ rfl ?_; conv => whnf)
      | (refine cmpT (by omega) ?_; conv => whnf)
      | (refine cmpF (by omega) ?_; conv => whnf)
      | (refine cmpI (fun _ => ?_) (fun _ => ?_) <;> conv => whnf))
  all_goals first
    | exact ⟨dec_t (by unfold fitB; omega), rfl⟩
    | exact ⟨dec_f (by unfold fitB; omega), rfl⟩

/-- a rule has something that its kind does not use -/
def surB (r : Rul) (t : Int) : Prop := (r.kind ≠ 1 ∧ (0 < r.guards.length ∨ 0 < r.some_.length ∨ 0 < r.forall_.length ∨ 0 < r.send.length)) ∨ (r.kind ≠ 1 ∧ r.kind ≠ 2 ∧ r.kind ≠ 3 ∧ (r.read ≠ -1 ∨ r.write ≠ -1)) ∨
  (r.kind ≠ 2 ∧ r.kind ≠ 5 ∧ (r.pfrom ≠ 0 ∨ r.pto ≠ 0)) ∨ (r.kind ≠ 3 ∧ 0 < r.response.length) ∨ (r.kind ≠ 5 ∧ r.direction ≠ 0) ∨ (r.kind ≠ 4 ∧ (r.at_ ≠ 0 ∨ 0 < r.left.length ∨ 0 < r.right.length)) ∨ (0 < r.parent.length ∧ ¬ (r.kind = 4 ∧ t = 4))
instance (r : Rul) (t : Int) : Decidable (surB r t) := inferInstanceAs (Decidable (_ ∨ _))
theorem surplusF (r : Rul) (t : Int) (hr : ¬ bigR r) (hf : fitB r.kind t) : PSpec Tryz.prog 105 [.agg (encR r), .int .i64 t] (fun u => u = .bool (decide (surB r t))) := by
  have hb := bigR_le hr
  refine PSpec.intro tt_ok mx_ok Tryz.func105 rfl (by decide) ?_; (conv => whnf)
  refine boxL ?_
  conv => whnf
  unfold fitB at hf
  repeat' (first
      | (refine needI (by first | omega | (dsimp only; omega)) ?_; conv => whnf)
      | (refine arI trivial (by omega) ?_; conv => whnf)
      | (refine arU trivial (by omega) ?_; conv => whnf)
      | (refine arB trivial (by omega) ?_; conv => whnf)
      | (refine drawI (by decide +kernel) ?_; conv => whnf)
      | (refine drawR (by decide +kernel) ?_; conv => whnf)
      | (refine drawP (by decide +kernel) ?_; conv => whnf)
      | (refine boxP rfl ?_; conv => whnf)
      | (refine appI _ rfl (by first | omega | (dsimp only; omega) | (simp only [List.length_cons, List.length_nil, List.length_append]; omega)) ?_; conv => whnf)
      | (refine rowSetI _ rfl ?_; conv => whnf)
      | (refine cmpT (by omega) ?_; conv => whnf)
      | (refine cmpF (by omega) ?_; conv => whnf)
      | (refine cmpI (fun _ => ?_) (fun _ => ?_) <;> conv => whnf))
  all_goals first
    | exact ⟨dec_t (by unfold surB; omega), rfl⟩
    | exact ⟨dec_f (by unfold surB; omega), rfl⟩
theorem unusedR (p : Pro) (r : Rul) (hf : fitB r.kind p.topology) : PSpec Tryz.prog 113 [.agg (encP p), .agg (encR r)] (fun u => u = .bool (decide (surB r p.topology))) := by
  refine PSpec.intro tt_ok mx_ok Tryz.func113 rfl (by decide) ?_; (conv => whnf)
  refine boxP rfl ?_
  conv => whnf
  refine boxP rfl ?_
  conv => whnf
  unfold fitB at hf
  repeat' (first
      | (refine needI (by first | omega | (dsimp only; omega)) ?_; conv => whnf)
      | (refine arI trivial (by omega) ?_; conv => whnf)
      | (refine arU trivial (by omega) ?_; conv => whnf)
      | (refine arB trivial (by omega) ?_; conv => whnf)
      | (refine drawI (by decide +kernel) ?_; conv => whnf)
      | (refine drawR (by decide +kernel) ?_; conv => whnf)
      | (refine drawP (by decide +kernel) ?_; conv => whnf)
      | (refine boxP rfl ?_; conv => whnf)
      | (refine appI _ rfl (by first | omega | (dsimp only; omega) | (simp only [List.length_cons, List.length_nil, List.length_append]; omega)) ?_; conv => whnf)
      | (refine rowSetI _ rfl ?_; conv => whnf)
      | (refine cmpT (by omega) ?_; conv => whnf)
      | (refine cmpF (by omega) ?_; conv => whnf)
      | (refine cmpI (fun _ => ?_) (fun _ => ?_) <;> conv => whnf))
  all_goals first
    | exact ⟨dec_t (by unfold surB; omega), rfl⟩
    | exact ⟨dec_f (by unfold surB; omega), rfl⟩
end Go.Proofs.YtcbckmnbdcjeeaaGreatDoor
