
/-
  Initial configurations, by the program and by the document's answer.
-/
import Derived.Test.YtcbckmnbdcjeeaaGreatDoorFoV
set_option linter.unusedVariables false
set_option linter.unusedSimpArgs false
namespace Go.Proofs.YtcbckmnbdcjeeaaGreatDoor
set_option maxRecDepth 100000
set_option maxHeartbeats 16000000

def isI (p : Pro) (q : Prp) (s : Siz) (c : Cfg) : Prop := VC p s c ∧ c.value = 0 ∧ (∀ j, j < c.sent.length → c.sent.getD j 0 = 0 ∧ c.faulty.getD j 0 = 0) ∧ ∀ i, i < c.states.length → c.states.getD i 0 ∈ chF p q s i
noncomputable instance decIsI (p : Pro) (q : Prp) (s : Siz) (c : Cfg) : Decidable (isI p q s c) := Classical.propDecidable _
theorem hasIF (l : List Int) (s : Int) (hl : l.length ≤ 1000) : PSpec Tryz.prog 82 [.sl 0 encI l, .int .i64 s] (fun u => u = .bool (decide (s ∈ l))) := by
  refine PSpec.intro tt_ok mx_ok Tryz.func82 rfl (by decide) ?_; (conv => whnf)
  refine WPc.loopF tt_ok mx_ok (fun k : Nat => k ≤ l.length ∧ s ∉ l.take k) (fun k => [(9, .int .i64 (k : Int))]) (fun _ => []) (fun k => l.length - k) 0 ⟨by omega, by simp⟩ ?_; conv => whnf
  refine ⟨(Sub.id_ 400 rfl auto_ auto_), ?_⟩
  rintro k ⟨hk, ha⟩
  conv => whnf
  repeat' (first
      | (refine needI (by first | omega | (dsimp only; omega)) ?_; conv => whnf)
      | (refine arI trivial (by omega) ?_; conv => whnf)
      | (refine arU trivial (by omega) ?_; conv => whnf)
      | (refine arB trivial (by omega) ?_; conv => whnf)
      | (refine drawI (by decide +kernel) ?_; conv => whnf)
      | (refine drawR (by decide +kernel) ?_; conv => whnf)
      | (refine drawP (by decide +kernel) ?_; conv => whnf)
      | (refine boxP rfl ?_; conv => whnf)
      | (refine appI _ rfl (by first | omega | (dsimp only; omega) | (simp only [List.length_cons, List.length_nil, List.length_append]; omega)) ?_; conv => whnf)
      | (refine rowSetI _ rfl ?_; conv => whnf)
      | (refine cmpT (by omega) ?_; conv => whnf)
      | (refine cmpF (by omega) ?_; conv => whnf)
      | (refine cmpI (fun _ => ?_) (fun _ => ?_) <;> conv => whnf))
  · rename_i h1 h2
    rw [Int.toNat_natCast] at h2
    refine ⟨dec_t ?_, rfl⟩
    rw [h2, List.getD_eq_getElem?_getD, List.getElem?_eq_getElem (by omega)]
    exact List.getElem_mem _
  · rename_i h1 h2
    rw [Int.toNat_natCast] at h2
    refine ⟨k + 1, (Sub.id_ 400 rfl auto_ auto_), ⟨by omega, ?_⟩, by dsimp only; omega⟩
    rw [List.take_succ_eq_append_getElem (by omega), List.mem_append, List.mem_singleton, not_or]
    refine ⟨ha, fun e => h2 ?_⟩
    rw [List.getD_eq_getElem?_getD, List.getElem?_eq_getElem (by omega)]
    exact e
  · obtain rfl : k = l.length := by omega
    rw [List.take_length] at ha
    exact ⟨dec_f ha, rfl⟩
theorem chF_le {p : Pro} {q : Prp} (hp : ¬ bigP p) (hq : ¬ bigQ q) (s : Siz) (k : Nat) : (chF p q s k).length ≤ 1000 := by
  have hle := bigP_le hp
  have hlq := bigQ_le hq
  unfold chF stL
  (repeat' split) <;> omega
theorem isInitialF (p : Pro) (q : Prp) (s : Siz) (c : Cfg) (hp : ¬ bigP p) (hq : ¬ bigQ q) (hw : wideB c = false) (hv : propE p q = 0) (hz : sizeE p s = 0) : PSpec Tryz.prog 42 [.agg (encP p), .agg (encQ q), .agg (encZ s), .agg (encC c)] (fun u => u = .bool (decide (isI p q s c))) := by
  have hle := bigP_le hp
  have hc := wide_le hw
  have h2 := sizeE_ok hz
  refine PSpec.intro tt_ok mx_ok Tryz.func42 rfl (by decide) ?_; (conv => whnf)
  refine boxP rfl ?_
  conv => whnf
  refine boxP rfl ?_
  conv => whnf
  refine boxP rfl ?_
  conv => whnf
  refine boxP rfl ?_
  conv => whnf
  have hV := validConfigF p s c hp hw (by omega)
  by_cases h3 : VC p s c
  case neg =>
    have hv : vcE p s c = 1 := by unfold vcE; rw [if_neg h3]
    rw [hv] at hV
    (refine Spec.of_pure (n := 5) (hV) rfl ?_; rintro _ rfl; conv => whnf)
    refine cmpT (by omega) ?_
    conv => whnf
    exact ⟨dec_f (fun h => h3 h.1), rfl⟩
  have hv0 : vcE p s c = 0 := by unfold vcE; rw [if_pos h3]
  rw [hv0] at hV
  have hsf := h3.snl.trans h3.fal.symm
  (refine Spec.of_pure (n := 5) (hV) rfl ?_; rintro _ rfl; conv => whnf)
  refine cmpF (by omega) ?_
  conv => whnf
  refine cmpI (fun h4 => ?_) (fun h4 => ?_) <;> conv => whnf
  · exact ⟨dec_f (fun h => h4 h.2.1), rfl⟩
  refine WPc.loopF tt_ok mx_ok (fun k : Nat => k ≤ c.sent.length ∧ ∀ j, j < k → c.sent.getD j 0 = 0 ∧ c.faulty.getD j 0 = 0) (fun k => [(28, .int .i64 (k : Int))]) (fun _ => []) (fun k => c.sent.length - k) 0 ⟨by omega, fun j hj => by omega⟩ ?_; conv => whnf
  refine ⟨(Sub.id_ 400 rfl auto_ auto_), ?_⟩
  rintro k ⟨hk, ha⟩
  conv => whnf
  refine cmpI (fun g1 => ?_) (fun g1 => ?_) <;> conv => whnf
  · refine needI (by omega) ?_
    conv => whnf
    rw [Int.toNat_natCast]
    refine cmpI (fun g2 => ?_) (fun g2 => ?_) <;> conv => whnf
    · exact ⟨dec_f (fun h => g2 (h.2.2.1 k (by omega)).1), rfl⟩
    refine needI (by omega) ?_
    conv => whnf
    rw [Int.toNat_natCast]
    refine cmpI (fun g3 => ?_) (fun g3 => ?_) <;> conv => whnf
    · exact ⟨dec_f (fun h => g3 (h.2.2.1 k (by omega)).2), rfl⟩
    repeat' (first
        | (refine needI (by first | omega | (dsimp only; omega)) ?_; conv => whnf)
        | (refine arI trivial (by omega) ?_; conv => whnf)
        | (refine cmpT (by omega) ?_; conv => whnf)
        | (refine cmpF (by omega) ?_; conv => whnf)
        | fail)
    refine ⟨k + 1, (Sub.id_ 400 rfl auto_ auto_), ⟨by omega, fun j hj => ?_⟩, by dsimp only; omega⟩
    by_cases e : j = k
    · subst e; exact ⟨by omega, by omega⟩
    · exact ha j (by omega)
  have h5 : ∀ j, j < c.sent.length → c.sent.getD j 0 = 0 ∧ c.faulty.getD j 0 = 0 := fun j hj => ha j (by omega)
  clear ha hk g1
  (refine Spec.of_pure (n := 5) (startsF p q hp hq hv) rfl ?_; rintro _ rfl; conv => whnf)
  refine WPc.loopF tt_ok mx_ok (fun i : Nat => i ≤ c.states.length ∧ ∀ j, j < i → c.states.getD j 0 ∈ chF p q s j) (fun i => [(55, .int .i64 (i : Int))]) (fun _ => []) (fun i => c.states.length - i) 0 ⟨by omega, fun j hj => by omega⟩ ?_; conv => whnf
  refine ⟨(Sub.id_ 400 rfl auto_ auto_), ?_⟩
  rintro i ⟨hi, ha⟩
  conv => whnf
  refine cmpI (fun g1 => ?_) (fun g1 => ?_) <;> conv => whnf
  · have he := chF.eq_1 p q s i
    have hcl := chF_le hp hq s i
    have hcor := h3.cor
    refine needI (by omega) ?_
    conv => whnf
    rw [Int.toNat_natCast]
    have hnx : c.states.getD i 0 ∈ chF p q s i → ∀ j, j < i + 1 → c.states.getD j 0 ∈ chF p q s j := fun h j hj => by
      by_cases e : j = i
      · subst e; exact h
      · exact ha j (by omega)
    have hno : c.states.getD i 0 ∉ chF p q s i → ¬ isI p q s c := fun h hh => h (hh.2.2.2 i (by omega))
    generalize c.states.getD i 0 = x at hnx hno
    by_cases k1 : i = 0 ∧ 0 < p.leader.length
    · rw [if_pos k1] at he
      rw [he] at hnx hno hcl
      repeat' (first
          | (refine needI (by first | omega | (dsimp only; omega)) ?_; conv => whnf)
          | (refine arI trivial (by omega) ?_; conv => whnf)
          | (refine cmpT (by omega) ?_; conv => whnf)
          | (refine cmpF (by omega) ?_; conv => whnf)
          | fail)
      refine Spec.dcall (n := 5) (hasIF p.leader x (by omega)) rfl (fun _ => ?_) (fun _ => ?_) <;> (conv => whnf)
      · rename_i hm
        repeat' (first
            | (refine needI (by first | omega | (dsimp only; omega)) ?_; conv => whnf)
            | (refine arI trivial (by omega) ?_; conv => whnf)
            | (refine cmpT (by omega) ?_; conv => whnf)
            | (refine cmpF (by omega) ?_; conv => whnf)
            | fail)
        exact ⟨i + 1, (Sub.id_ 400 rfl auto_ auto_), ⟨by omega, hnx hm⟩, by dsimp only; omega⟩
      · rename_i hm
        exact ⟨dec_f (hno hm), rfl⟩
    rw [if_neg k1] at he
    by_cases k2 : (i : Int) < s.n - s.f
    · rw [if_pos k2] at he
      rw [he] at hnx hno hcl
      by_cases k3 : i = 0
      all_goals
        repeat' (first
            | (refine needI (by first | omega | (dsimp only; omega)) ?_; conv => whnf)
            | (refine arI trivial (by omega) ?_; conv => whnf)
            | (refine cmpT (by omega) ?_; conv => whnf)
            | (refine cmpF (by omega) ?_; conv => whnf)
            | fail)
        refine Spec.dcall (n := 5) (hasIF (stL p q) x (by omega)) rfl (fun _ => ?_) (fun _ => ?_) <;> (conv => whnf)
        · rename_i hm
          repeat' (first
              | (refine needI (by first | omega | (dsimp only; omega)) ?_; conv => whnf)
              | (refine arI trivial (by omega) ?_; conv => whnf)
              | (refine cmpT (by omega) ?_; conv => whnf)
              | (refine cmpF (by omega) ?_; conv => whnf)
              | fail)
          exact ⟨i + 1, (Sub.id_ 400 rfl auto_ auto_), ⟨by omega, hnx hm⟩, by dsimp only; omega⟩
        · rename_i hm
          exact ⟨dec_f (hno hm), rfl⟩
    · rw [if_neg k2] at he
      rw [he] at hnx hno hcl
      by_cases k3 : i = 0
      all_goals
        repeat' (first
            | (refine needI (by first | omega | (dsimp only; omega)) ?_; conv => whnf)
            | (refine arI trivial (by omega) ?_; conv => whnf)
            | (refine cmpT (by omega) ?_; conv => whnf)
            | (refine cmpF (by omega) ?_; conv => whnf)
            | fail)
        refine Spec.dcall (n := 5) (hasIF p.initial x (by omega)) rfl (fun _ => ?_) (fun _ => ?_) <;> (conv => whnf)
        · rename_i hm
          repeat' (first
              | (refine needI (by first | omega | (dsimp only; omega)) ?_; conv => whnf)
              | (refine arI trivial (by omega) ?_; conv => whnf)
              | (refine cmpT (by omega) ?_; conv => whnf)
              | (refine cmpF (by omega) ?_; conv => whnf)
              | fail)
          exact ⟨i + 1, (Sub.id_ 400 rfl auto_ auto_), ⟨by omega, hnx hm⟩, by dsimp only; omega⟩
        · rename_i hm
          exact ⟨dec_f (hno hm), rfl⟩
  · exact ⟨dec_t ⟨h3, by omega, h5, fun j hj => ha j (by omega)⟩, rfl⟩
theorem isInitialR (p : Pro) (q : Prp) (s : Siz) (c : Cfg) (hp : ¬ bigP p) (hq : ¬ bigQ q) (hw : wideB c = false) (hz : sizeE p s = 0) : PSpec Tryz.prog 46 [.agg (encP p), .agg (encQ q), .agg (encZ s), .agg (encC c)] (fun u => u = .bool (decide (isI p q s c))) := by
  have hle := bigP_le hp
  have hc := wide_le hw
  have h2 := sizeE_ok hz
  refine PSpec.intro tt_ok mx_ok Tryz.func46 rfl (by decide) ?_; (conv => whnf)
  refine boxP rfl ?_
  conv => whnf
  refine boxP rfl ?_
  conv => whnf
  refine boxP rfl ?_
  conv => whnf
  refine boxP rfl ?_
  conv => whnf
  refine Spec.dcall (n := 5) (validConfigR p s c hp hw (by omega)) rfl (fun _ => ?_) (fun _ => ?_) <;> (conv => whnf)
  case refine_2 =>
    rename_i h3
    exact ⟨dec_f (fun h => h3 h.1), rfl⟩
  rename_i h3
  have hsf := h3.snl.trans h3.fal.symm
  refine cmpI (fun h4 => ?_) (fun h4 => ?_) <;> conv => whnf
  · exact ⟨dec_f (fun h => h4 h.2.1), rfl⟩
  refine WPc.loopF tt_ok mx_ok (fun k : Nat => k ≤ c.sent.length ∧ ∀ j, j < k → c.sent.getD j 0 = 0 ∧ c.faulty.getD j 0 = 0) (fun k => [(9, .int .i64 (k : Int))]) (fun _ => []) (fun k => c.sent.length - k) 0 ⟨by omega, fun j hj => by omega⟩ ?_; conv => whnf
  refine ⟨(Sub.id_ 400 rfl auto_ auto_), ?_⟩
  rintro k ⟨hk, ha⟩
  conv => whnf
  refine cmpI (fun g1 => ?_) (fun g1 => ?_) <;> conv => whnf
  · refine needI (by omega) ?_
    conv => whnf
    rw [Int.toNat_natCast]
    refine cmpI (fun g2 => ?_) (fun g2 => ?_) <;> conv => whnf
    · exact ⟨dec_f (fun h => g2 (h.2.2.1 k (by omega)).1), rfl⟩
    refine needI (by omega) ?_
    conv => whnf
    rw [Int.toNat_natCast]
    refine cmpI (fun g3 => ?_) (fun g3 => ?_) <;> conv => whnf
    · exact ⟨dec_f (fun h => g3 (h.2.2.1 k (by omega)).2), rfl⟩
    repeat' (first
        | (refine needI (by first | omega | (dsimp only; omega)) ?_; conv => whnf)
        | (refine arI trivial (by omega) ?_; conv => whnf)
        | (refine cmpT (by omega) ?_; conv => whnf)
        | (refine cmpF (by omega) ?_; conv => whnf)
        | fail)
    refine ⟨k + 1, (Sub.id_ 400 rfl auto_ auto_), ⟨by omega, fun j hj => ?_⟩, by dsimp only; omega⟩
    by_cases e : j = k
    · subst e; exact ⟨by omega, by omega⟩
    · exact ha j (by omega)
  have h5 : ∀ j, j < c.sent.length → c.sent.getD j 0 = 0 ∧ c.faulty.getD j 0 = 0 := fun j hj => ha j (by omega)
  clear ha hk g1
  refine WPc.loopF tt_ok mx_ok (fun i : Nat => i ≤ c.states.length ∧ ∀ j, j < i → c.states.getD j 0 ∈ chF p q s j) (fun i => [(10, .int .i64 (i : Int))]) (fun _ => []) (fun i => c.states.length - i) 0 ⟨by omega, fun j hj => by omega⟩ ?_; conv => whnf
  refine ⟨(Sub.id_ 400 rfl auto_ auto_), ?_⟩
  rintro i ⟨hi, ha⟩
  conv => whnf
  refine cmpI (fun g1 => ?_) (fun g1 => ?_) <;> conv => whnf
  · have hcl := chF_le hp hq s i
    have hnx : c.states.getD i 0 ∈ chF p q s i → ∀ j, j < i + 1 → c.states.getD j 0 ∈ chF p q s j := fun h j hj => by
      by_cases e : j = i
      · subst e; exact h
      · exact ha j (by omega)
    have hno : c.states.getD i 0 ∉ chF p q s i → ¬ isI p q s c := fun h hh => h (hh.2.2.2 i (by omega))
    refine drawI (by decide +kernel) ?_
    conv => whnf
    (refine callPI 5 (choicesR p q s i hp hq (by omega)) rfl ⟨_, rfl⟩ ?_; rintro _ rfl; conv => whnf)
    refine needI (by omega) ?_
    conv => whnf
    rw [Int.toNat_natCast]
    refine callD 5 (hasR (chF p q s i) _ (by omega)) rfl (fun _ => ?_) (fun _ => ?_) <;> (conv => whnf)
    · rename_i hm
      repeat' (first
          | (refine needI (by first | omega | (dsimp only; omega)) ?_; conv => whnf)
          | (refine arI trivial (by omega) ?_; conv => whnf)
          | (refine cmpT (by omega) ?_; conv => whnf)
          | (refine cmpF (by omega) ?_; conv => whnf)
          | fail)
      exact ⟨i + 1, (Sub.id_ 400 rfl auto_ auto_), ⟨by omega, hnx hm⟩, by dsimp only; omega⟩
    · rename_i hm
      exact ⟨dec_f (hno hm), rfl⟩
  · exact ⟨dec_t ⟨h3, by omega, h5, fun j hj => ha j (by omega)⟩, rfl⟩

theorem sizQ_ok {p : Pro} {q : Prp} {s : Siz} (h : sizQ p q s = 0) : propE p q = 0 ∧ sizeE p s = 0 := by
  unfold sizQ at h
  by_cases h1 : propE p q ≠ 0
  · rw [if_pos h1] at h; omega
  · rw [if_neg h1] at h; exact ⟨by omega, h⟩
def encCs (p : Pro) (q : Prp) (s : Siz) : List AV := encP p ++ (encQ q ++ encZ s)
theorem bigCaseF (p : Pro) (q : Prp) (s : Siz) : PSpec Tryz.prog 20 [.agg (encCs p q s)] (fun u => u = .bool (decide (bigP p ∨ bigQ q))) := by
  refine PSpec.intro tt_ok mx_ok Tryz.func20 rfl (by decide) ?_; (conv => whnf)
  refine boxP rfl ?_
  conv => whnf
  refine Spec.dcall (n := 5) (bigF p) rfl (fun _ => ?_) (fun _ => ?_) <;> (conv => whnf)
  · rename_i h; exact ⟨dec_t (.inl h), rfl⟩
  rename_i h1
  refine Spec.dcall (n := 5) (bigQF q) rfl (fun _ => ?_) (fun _ => ?_) <;> (conv => whnf)
  · rename_i h; exact ⟨dec_t (.inr h), rfl⟩
  · rename_i h; exact ⟨dec_f (fun hh => hh.elim h1 h), rfl⟩
end Go.Proofs.YtcbckmnbdcjeeaaGreatDoor
