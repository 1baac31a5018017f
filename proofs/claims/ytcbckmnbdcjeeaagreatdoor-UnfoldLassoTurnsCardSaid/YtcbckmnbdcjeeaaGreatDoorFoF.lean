
/-
  A configuration with its neighbors; which messages count.
-/
import Derived.Test.YtcbckmnbdcjeeaaGreatDoorFoE
set_option linter.unusedVariables false
set_option linter.unusedSimpArgs false
namespace Go.Proofs.YtcbckmnbdcjeeaaGreatDoor
set_option maxRecDepth 100000
set_option maxHeartbeats 8000000

def lnkL (p : Pro) (c : Cfg) : List AV := [.sl 0 encI ((List.range c.states.length).map (nbF p.topology c.shape c.states.length)), .sl 0 encI ((List.range c.states.length).map (nbS p.topology c.shape c.states.length)), .sl 0 encI ((List.range c.states.length).map (nbP p.topology c.shape c.states.length))]
def encV (p : Pro) (s : Siz) (c : Cfg) : List AV := encP p ++ (encZ s ++ (encC c ++ lnkL p c))
theorem seeF (p : Pro) (s : Siz) (c : Cfg) (hw : wideB c = false) : PSpec Tryz.prog 83 [.agg (encP p), .agg (encZ s), .agg (encC c)] (fun u => u = .agg (encV p s c)) := by
  have hc := wide_le hw
  refine PSpec.intro tt_ok mx_ok Tryz.func83 rfl (by decide) ?_; (conv => whnf)
  refine boxP rfl ?_
  conv => whnf
  refine boxP rfl ?_
  conv => whnf
  refine boxP rfl ?_
  conv => whnf
  (refine Spec.of_pure (n := 5) (linkF p.topology c.shape c.states.length (by omega) (by omega)) rfl ?_; rintro _ rfl; conv => whnf)
  exact ⟨rfl, rfl⟩
/-- how many messages of a type count -/
def cntM (p : Pro) (s : Siz) (c : Cfg) (m : Int) : Bool → Int
  | false => c.sent.getD m.toNat 0 + (if p.fault = 1 ∨ p.fault = 2 then c.faulty.getD m.toNat 0 else if p.fault = 3 then s.f else 0)
  | true => c.sent.getD m.toNat 0 + (if p.fault = 1 then c.faulty.getD m.toNat 0 else 0)
theorem cntM_b {p : Pro} {s : Siz} {c : Cfg} {m : Int} (f : Bool) (h1 : inR c.sent 1048577) (h2 : inR c.faulty 1048577) (hm : 0 ≤ m ∧ m < c.sent.length ∧ m < c.faulty.length) (hs : 0 ≤ s.f ∧ s.f ≤ 1048576) : 0 ≤ cntM p s c m f ∧ cntM p s c m f ≤ 2097152 := by
  have a1 := h1 m.toNat (by omega)
  have a2 := h2 m.toNat (by omega)
  cases f <;> unfold cntM <;> dsimp only <;> (repeat' split) <;> omega
theorem countedF (p : Pro) (s : Siz) (c : Cfg) (m : Int) (f : Bool) (h1 : inR c.sent 1048577) (h2 : inR c.faulty 1048577) (hm : 0 ≤ m ∧ m < c.sent.length ∧ m < c.faulty.length) (hs : 0 ≤ s.f ∧ s.f ≤ 1048576) : PSpec Tryz.prog 161 [.agg (encV p s c), .int .i64 m, .bool f] (fun u => u = .int .i64 (cntM p s c m f)) := by
  have a1 := h1 m.toNat (by omega)
  have a2 := h2 m.toNat (by omega)
  cases f
  all_goals
    refine PSpec.intro tt_ok mx_ok Tryz.func161 rfl (by decide) ?_; (conv => whnf)
    refine boxP rfl ?_
    conv => whnf
    refine needI (by omega) ?_
    conv => whnf
    repeat' (first
        | (refine needI (by first | omega | (dsimp only; omega)) ?_; conv => whnf)
        | (refine arI trivial (by omega) ?_; conv => whnf)
        | (refine arU trivial (by omega) ?_; conv => whnf)
        | (refine arB trivial (by omega) ?_; conv => whnf)
        | (refine drawI (by decide +kernel) ?_; conv => whnf)
        | (refine drawR (by decide +kernel) ?_; conv => whnf)
        | (refine drawP (by decide +kernel) ?_; conv => whnf)
        | (refine boxP rfl ?_; conv => whnf)
        | (refine appI _ rfl (by first | omega | (dsimp only; omega) | (simp only [List.length_cons, List.length_nil, List.length_append]; omega)) ?_; conv => whnf)
        | (refine rowSetI _ rfl ?_; conv => whnf)
        | (refine cmpT (by omega) ?_; conv => whnf)
        | (refine cmpF (by omega) ?_; conv => whnf)
        | (refine cmpI (fun _ => ?_) (fun _ => ?_) <;> conv => whnf))
    all_goals
      refine ⟨av_int ?_, rfl⟩
      unfold cntM
      dsimp only
      (repeat' split) <;> omega
theorem heardR (p : Pro) (s : Siz) (c : Cfg) (m : Int) (f : Bool) (h1 : inR c.sent 1048577) (h2 : inR c.faulty 1048577) (hm : 0 ≤ m ∧ m < c.sent.length ∧ m < c.faulty.length) (hs : 0 ≤ s.f ∧ s.f ≤ 1048576) : PSpec Tryz.prog 165 [.agg (encP p), .agg (encZ s), .agg (encC c), .int .i64 m, .bool f] (fun u => u = .int .i64 (cntM p s c m f)) := by
  have a1 := h1 m.toNat (by omega)
  have a2 := h2 m.toNat (by omega)
  cases f
  all_goals
    refine PSpec.intro tt_ok mx_ok Tryz.func165 rfl (by decide) ?_; (conv => whnf)
    refine boxP rfl ?_
    conv => whnf
    refine boxP rfl ?_
    conv => whnf
    refine boxP rfl ?_
    conv => whnf
    by_cases e1 : p.fault = 1
    · repeat' (first
          | (refine needI (by first | omega | (dsimp only; omega)) ?_; conv => whnf)
          | (refine arI trivial (by omega) ?_; conv => whnf)
          | (refine cmpT (by omega) ?_; conv => whnf)
          | (refine cmpF (by omega) ?_; conv => whnf)
          | fail)
      refine drawI (by decide +kernel) ?_
      conv => whnf
      repeat' (first
          | (refine needI (by first | omega | (dsimp only; omega)) ?_; conv => whnf)
          | (refine arI trivial (by omega) ?_; conv => whnf)
          | (refine arU trivial (by omega) ?_; conv => whnf)
          | (refine arB trivial (by omega) ?_; conv => whnf)
          | (refine drawI (by decide +kernel) ?_; conv => whnf)
          | (refine drawR (by decide +kernel) ?_; conv => whnf)
          | (refine drawP (by decide +kernel) ?_; conv => whnf)
          | (refine boxP rfl ?_; conv => whnf)
          | (refine appI _ rfl (by first | omega | (dsimp only; omega) | (simp only [List.length_cons, List.length_nil, List.length_append]; omega)) ?_; conv => whnf)
          | (refine rowSetI _ rfl ?_; conv => whnf)
          | (refine cmpT (by omega) ?_; conv => whnf)
          | (refine cmpF (by omega) ?_; conv => whnf)
          | (refine cmpI (fun _ => ?_) (fun _ => ?_) <;> conv => whnf))
      all_goals
        refine ⟨av_int ?_, rfl⟩
        unfold cntM
        dsimp only
        (repeat' split) <;> omega
    by_cases e2 : p.fault = 2
    · repeat' (first
          | (refine needI (by first | omega | (dsimp only; omega)) ?_; conv => whnf)
          | (refine arI trivial (by omega) ?_; conv => whnf)
          | (refine cmpT (by omega) ?_; conv => whnf)
          | (refine cmpF (by omega) ?_; conv => whnf)
          | fail)
      all_goals try (refine drawI (by decide +kernel) ?_)
      all_goals
        conv => whnf
        repeat' (first
            | (refine needI (by first | omega | (dsimp only; omega)) ?_; conv => whnf)
            | (refine arI trivial (by omega) ?_; conv => whnf)
            | (refine arU trivial (by omega) ?_; conv => whnf)
            | (refine arB trivial (by omega) ?_; conv => whnf)
            | (refine drawI (by decide +kernel) ?_; conv => whnf)
            | (refine drawR (by decide +kernel) ?_; conv => whnf)
            | (refine drawP (by decide +kernel) ?_; conv => whnf)
            | (refine boxP rfl ?_; conv => whnf)
            | (refine appI _ rfl (by first | omega | (dsimp only; omega) | (simp only [List.length_cons, List.length_nil, List.length_append]; omega)) ?_; conv => whnf)
            | (refine rowSetI _ rfl ?_; conv => whnf)
            | (refine cmpT (by omega) ?_; conv => whnf)
            | (refine cmpF (by omega) ?_; conv => whnf)
            | (refine cmpI (fun _ => ?_) (fun _ => ?_) <;> conv => whnf))
      all_goals
        refine ⟨av_int ?_, rfl⟩
        unfold cntM
        dsimp only
        (repeat' split) <;> omega
    by_cases e3 : p.fault = 3
    · repeat' (first
          | (refine needI (by first | omega | (dsimp only; omega)) ?_; conv => whnf)
          | (refine arI trivial (by omega) ?_; conv => whnf)
          | (refine cmpT (by omega) ?_; conv => whnf)
          | (refine cmpF (by omega) ?_; conv => whnf)
          | fail)
      all_goals try (refine drawI (by decide +kernel) ?_)
      all_goals
        conv => whnf
        repeat' (first
            | (refine needI (by first | omega | (dsimp only; omega)) ?_; conv => whnf)
            | (refine arI trivial (by omega) ?_; conv => whnf)
            | (refine arU trivial (by omega) ?_; conv => whnf)
            | (refine arB trivial (by omega) ?_; conv => whnf)
            | (refine drawI (by decide +kernel) ?_; conv => whnf)
            | (refine drawR (by decide +kernel) ?_; conv => whnf)
            | (refine drawP (by decide +kernel) ?_; conv => whnf)
            | (refine boxP rfl ?_; conv => whnf)
            | (refine appI _ rfl (by first | omega | (dsimp only; omega) | (simp only [List.length_cons, List.length_nil, List.length_append]; omega)) ?_; conv => whnf)
            | (refine rowSetI _ rfl ?_; conv => whnf)
            | (refine cmpT (by omega) ?_; conv => whnf)
            | (refine cmpF (by omega) ?_; conv => whnf)
            | (refine cmpI (fun _ => ?_) (fun _ => ?_) <;> conv => whnf))
      all_goals
        refine ⟨av_int ?_, rfl⟩
        unfold cntM
        dsimp only
        (repeat' split) <;> omega
    · repeat' (first
          | (refine needI (by first | omega | (dsimp only; omega)) ?_; conv => whnf)
          | (refine arI trivial (by omega) ?_; conv => whnf)
          | (refine cmpT (by omega) ?_; conv => whnf)
          | (refine cmpF (by omega) ?_; conv => whnf)
          | fail)
      repeat' (first
          | (refine needI (by first | omega | (dsimp only; omega)) ?_; conv => whnf)
          | (refine arI trivial (by omega) ?_; conv => whnf)
          | (refine arU trivial (by omega) ?_; conv => whnf)
          | (refine arB trivial (by omega) ?_; conv => whnf)
          | (refine drawI (by decide +kernel) ?_; conv => whnf)
          | (refine drawR (by decide +kernel) ?_; conv => whnf)
          | (refine drawP (by decide +kernel) ?_; conv => whnf)
          | (refine boxP rfl ?_; conv => whnf)
          | (refine appI _ rfl (by first | omega | (dsimp only; omega) | (simp only [List.length_cons, List.length_nil, List.length_append]; omega)) ?_; conv => whnf)
          | (refine rowSetI _ rfl ?_; conv => whnf)
          | (refine cmpT (by omega) ?_; conv => whnf)
          | (refine cmpF (by omega) ?_; conv => whnf)
          | (refine cmpI (fun _ => ?_) (fun _ => ?_) <;> conv => whnf))
      all_goals
        refine ⟨av_int ?_, rfl⟩
        unfold cntM
        dsimp only
        (repeat' split) <;> omega
end Go.Proofs.YtcbckmnbdcjeeaaGreatDoor
