
/-
  Which steps are enabled in a valid configuration, by the program.
-/
import Derived.Test.YtcbckmnbdcjeeaaGreatDoorFoI
import Derived.Test.YtcbckmnbdcjeeaaGreatDoorPlD
set_option linter.unusedVariables false
set_option linter.unusedSimpArgs false
namespace Go.Proofs.YtcbckmnbdcjeeaaGreatDoor
set_option maxRecDepth 100000
set_option maxHeartbeats 8000000

structure Stp where
  rule : Int
  process : Int
  partner : Int
def encX (x : Stp) : List AV := [.int .i64 x.rule, .int .i64 x.process, .int .i64 x.partner]
def stp0 : Stp := ⟨0, 0, 0⟩
def nF (p : Pro) (c : Cfg) (i : Nat) : Int := nbF p.topology c.shape c.states.length i
def nS (p : Pro) (c : Cfg) (i : Nat) : Int := nbS p.topology c.shape c.states.length i
def nP (p : Pro) (c : Cfg) (i : Nat) : Int := nbP p.topology c.shape c.states.length i
/-- a process is where a Neighbor rule demands -/
def posB (p : Pro) (c : Cfg) (r : Rul) (i : Nat) : Prop := (r.at_ = 1 → i = 0) ∧ (r.at_ = 2 → (p.topology = 2 → nS p c i = -1) ∧ (p.topology = 4 → nF p c i = -1))
noncomputable instance decPos (p : Pro) (c : Cfg) (r : Rul) (i : Nat) : Decidable (posB p c r i) := Classical.propDecidable _
def pasB (p : Pro) (c : Cfg) (r : Rul) (i : Nat) (j : Int) : Prop := if r.direction = 1 then nS p c i = j else if r.direction = 2 then nF p c i = j else if r.direction = 3 then (nF p c i = j ∨ nS p c i = j) else nP p c i = j
noncomputable instance decPas (p : Pro) (c : Cfg) (r : Rul) (i : Nat) (j : Int) : Decidable (pasB p c r i j) := Classical.propDecidable _
def prtB (c : Cfg) (r : Rul) (x : Stp) : Prop := 0 ≤ x.partner ∧ x.partner < c.states.length ∧ x.partner ≠ x.process ∧ c.states.getD x.partner.toNat 0 = r.pfrom
def nbrB (p : Pro) (c : Cfg) (r : Rul) (i : Nat) : Prop := posB p c r i ∧ demB c r.left (nF p c i) ∧ demB c r.right (nS p c i) ∧ demB c r.parent (nP p c i)
def kinB (p : Pro) (s : Siz) (c : Cfg) (r : Rul) (x : Stp) (f : Bool) : Prop :=
  if r.kind = 2 ∨ r.kind = 5 then prtB c r x ∧ (r.kind = 2 ∨ pasB p c r x.process.toNat x.partner)
  else x.partner = -1 ∧ (if r.kind = 1 then grdB p s c r f ∧ othB c r x.process else if r.kind = 3 then True else nbrB p c r x.process.toNat)
def enC (p : Pro) (s : Siz) (c : Cfg) (r : Rul) (x : Stp) (f : Bool) : Prop := c.states.getD x.process.toNat 0 = r.src ∧ (r.read = -1 ∨ c.value = r.read) ∧ kinB p s c r x f
def enB (p : Pro) (s : Siz) (c : Cfg) (x : Stp) (f : Bool) : Prop := ((0 ≤ x.rule ∧ x.rule < p.rules.length) ∧ (0 ≤ x.process ∧ x.process < c.states.length)) ∧ enC p s c (p.rules.getD x.rule.toNat rul0) x f
noncomputable instance decEn (p : Pro) (s : Siz) (c : Cfg) (x : Stp) (f : Bool) : Decidable (enB p s c x f) := Classical.propDecidable _

theorem validE_top {p : Pro} (h : validE p = 0) : 1 ≤ p.topology ∧ p.topology ≤ 4 := by
  unfold validE at h
  by_cases h1 : ¬ validN p.name
  · rw [if_pos h1] at h; omega
  rw [if_neg h1] at h
  by_cases h2 : p.topology < 1 ∨ 4 < p.topology ∨ p.fault < 0 ∨ 3 < p.fault
  · rw [if_pos h2] at h; omega
  · omega
theorem validE_noc {p : Pro} (h : validE p = 0) (ht : p.topology ≠ 1) : p.messages.length = 0 ∧ p.values.length = 0 ∧ p.resilience.length = 0 ∧ p.fault = 0 := by
  unfold validE at h
  (repeat' split at h) <;> omega
theorem RulOk.read {p : Pro} {r : Rul} (h : RulOk p r) : -1 ≤ r.read ∧ -1 ≤ r.write ∧ r.read < p.values.length ∧ r.write < p.values.length := by
  have hk := h.kin
  have hs := h.sur
  have hf := h.fit
  unfold fitB at hf
  unfold kindE at hk
  by_cases k1 : r.kind = 1
  · rw [if_pos k1] at hk
    have hz := orL_zero hk
    have a := valE_ok (hz (valE p.values.length r.read) (by simp))
    have b := valE_ok (hz (valE p.values.length r.write) (by simp))
    omega
  rw [if_neg k1] at hk
  by_cases k2 : r.kind = 2
  · rw [if_pos k2] at hk
    have hz := orL_zero hk
    have a := valE_ok (hz (valE p.values.length r.read) (by simp))
    have b := valE_ok (hz (valE p.values.length r.write) (by simp))
    omega
  rw [if_neg k2] at hk
  by_cases k3 : r.kind = 3
  · rw [if_pos k3] at hk
    have hz := orL_zero hk
    have a := valE_ok (hz (valE p.values.length r.read) (by simp))
    have b := valE_ok (hz (valE p.values.length r.write) (by simp))
    omega
  · unfold surB at hs
    omega
theorem RulOk.guards {p : Pro} {r : Rul} (h : RulOk p r) (hk : r.kind = 1) : guardsE p.messages.length r.guards = 0 := by
  have := h.kin
  unfold kindE at this
  rw [if_pos hk] at this
  exact orL_zero this _ (by simp)
theorem RulOk.at4 {p : Pro} {r : Rul} (h : RulOk p r) (hk : r.kind = 4) : atE r.at_ p.topology = 0 := by
  have := h.kin
  unfold kindE at this
  rw [if_neg (by omega), if_neg (by omega), if_neg (by omega), if_pos hk] at this
  exact orL_zero this _ (by simp)
/-- the program's way to tell the position -/
theorem pos_eq {p : Pro} {s : Siz} {c : Cfg} {r : Rul} {i : Nat} (h : Rdy p s c) (hr : RulOk p r) (hk : r.kind = 4) (hi : i < c.states.length) :
    posB p c r i ↔ (r.at_ = 0 ∨ (r.at_ = 1 ∧ p.topology = 4 ∧ nP p c i < 0) ∨ (r.at_ = 1 ∧ p.topology ≠ 4 ∧ nF p c i < 0) ∨ (r.at_ ≠ 0 ∧ r.at_ ≠ 1 ∧ nS p c i < 0)) := by
  have hat := hr.at4 hk
  have ht := validE_top h.val
  have hf := hr.fit
  unfold fitB at hf
  unfold atE at hat
  have hat2 : (r.at_ = 0 ∨ r.at_ = 1 ∨ r.at_ = 2) ∧ (r.at_ ≠ 0 → p.topology ≠ 3) := by
    split at hat <;> omega
  have htop : p.topology = 2 ∨ p.topology = 3 ∨ p.topology = 4 := by omega
  have lin : p.topology = 2 → nF p c i = (i : Int) - 1 ∧ nS p c i = if i + 1 = c.states.length then -1 else (i : Int) + 1 := fun e => by
    unfold nF nS nbF nbS
    rw [if_pos e, if_pos e]
    exact ⟨rfl, rfl⟩
  have tre : p.topology = 4 → nF p c i = firstT c.shape i ∧ nS p c i = secondT c.shape i ∧ nP p c i = parentT c.shape i ∧ (i = 0 ↔ parentT c.shape i < 0) := fun e => by
    obtain ⟨e1, e2⟩ := h.vc.tre e
    have e3 := h.vc.len
    have hlen : c.shape.length = c.states.length := by
      unfold modN at e3
      have := validE_noc h.val (by omega)
      rw [if_neg (by omega)] at e3
      omega
    have hl := lkB_of e e2 hlen
    unfold nF nS nP nbF nbS nbP
    rw [if_neg (by omega), if_neg (by omega), if_pos ⟨e, hl⟩, if_neg (by omega), if_neg (by omega), if_pos ⟨e, hl⟩, if_pos ⟨e, hl⟩]
    refine ⟨rfl, rfl, rfl, ?_⟩
    constructor
    · intro e0; subst e0; rw [parentT_zero]; omega
    · intro hlt
      by_cases e0 : i = 0
      · exact e0
      · have := (e2.parAll i (by omega)).1 (by omega)
        omega
  unfold posB
  rcases htop with e | e | e
  · obtain ⟨a, b⟩ := lin e
    by_cases e1 : i + 1 = c.states.length
    · rw [if_pos e1] at b; constructor <;> intro hh <;> omega
    · rw [if_neg e1] at b; constructor <;> intro hh <;> omega
  · constructor <;> intro hh <;> omega
  · obtain ⟨a, b, d, g⟩ := tre e
    unfold firstT at a
    unfold secondT at b
    by_cases e1 : c.shape.getD i 0 = 2
    · rw [if_pos e1] at a b; constructor <;> intro hh <;> omega
    · rw [if_neg e1] at a b; constructor <;> intro hh <;> omega
theorem positionV (p : Pro) (s : Siz) (c : Cfg) (r : Rul) (i : Nat) (h : Rdy p s c) (hr : RulOk p r) (hk : r.kind = 4) (hi : i < c.states.length) : PSpec Tryz.prog 126 [.agg (encV p s c), .agg (encR r), .int .i64 (i : Int)] (fun u => u = .bool (decide (posB p c r i))) := by
  have hpe := pos_eq h hr hk hi
  have f1 : ((List.range c.states.length).map (nbF p.topology c.shape c.states.length)).length = c.states.length := by simp
  have f2 : ((List.range c.states.length).map (nbS p.topology c.shape c.states.length)).length = c.states.length := by simp
  have f3 : ((List.range c.states.length).map (nbP p.topology c.shape c.states.length)).length = c.states.length := by simp
  unfold nF nS nP at hpe
  refine PSpec.intro tt_ok mx_ok Tryz.func126 rfl (by decide) ?_; (conv => whnf)
  refine boxP rfl ?_
  conv => whnf
  refine boxP rfl ?_
  conv => whnf
  refine cmpI (fun h1 => ?_) (fun h1 => ?_) <;> conv => whnf
  · exact ⟨dec_t (hpe.2 (.inl h1)), rfl⟩
  by_cases h2 : r.at_ = 1
  · by_cases h3 : p.topology = 4
    · repeat' (first
          | (refine needI (by first | omega | (dsimp only; omega)) ?_; conv => whnf)
          | (refine arI trivial (by omega) ?_; conv => whnf)
          | (refine cmpT (by omega) ?_; conv => whnf)
          | (refine cmpF (by omega) ?_; conv => whnf)
          | fail)
      rw [Int.toNat_natCast, getD_map_range _ _ _ hi]
      refine cmpI (fun h4 => ?_) (fun h4 => ?_) <;> conv => whnf
      · exact ⟨dec_t (hpe.2 (by omega)), rfl⟩
      · exact ⟨dec_f (fun hh => by have := hpe.1 hh; omega), rfl⟩
    · repeat' (first
          | (refine needI (by first | omega | (dsimp only; omega)) ?_; conv => whnf)
          | (refine arI trivial (by omega) ?_; conv => whnf)
          | (refine cmpT (by omega) ?_; conv => whnf)
          | (refine cmpF (by omega) ?_; conv => whnf)
          | fail)
      rw [Int.toNat_natCast, getD_map_range _ _ _ hi]
      refine cmpI (fun h4 => ?_) (fun h4 => ?_) <;> conv => whnf
      · exact ⟨dec_t (hpe.2 (by omega)), rfl⟩
      · exact ⟨dec_f (fun hh => by have := hpe.1 hh; omega), rfl⟩
  · by_cases h3 : p.topology = 4
    all_goals
      repeat' (first
          | (refine needI (by first | omega | (dsimp only; omega)) ?_; conv => whnf)
          | (refine arI trivial (by omega) ?_; conv => whnf)
          | (refine cmpT (by omega) ?_; conv => whnf)
          | (refine cmpF (by omega) ?_; conv => whnf)
          | fail)
      rw [Int.toNat_natCast, getD_map_range _ _ _ hi]
      refine cmpI (fun h4 => ?_) (fun h4 => ?_) <;> conv => whnf
      · exact ⟨dec_t (hpe.2 (by omega)), rfl⟩
      · exact ⟨dec_f (fun hh => by have := hpe.1 hh; omega), rfl⟩
theorem passesV (p : Pro) (s : Siz) (c : Cfg) (r : Rul) (i : Nat) (j : Int) (hi : i < c.states.length) : PSpec Tryz.prog 123 [.agg (encV p s c), .agg (encR r), .int .i64 (i : Int), .int .i64 j] (fun u => u = .bool (decide (pasB p c r i j))) := by
  have f1 : ((List.range c.states.length).map (nbF p.topology c.shape c.states.length)).length = c.states.length := by simp
  have f2 : ((List.range c.states.length).map (nbS p.topology c.shape c.states.length)).length = c.states.length := by simp
  have f3 : ((List.range c.states.length).map (nbP p.topology c.shape c.states.length)).length = c.states.length := by simp
  have he : pasB p c r i j = (if r.direction = 1 then nbS p.topology c.shape c.states.length i = j else if r.direction = 2 then nbF p.topology c.shape c.states.length i = j else if r.direction = 3 then (nbF p.topology c.shape c.states.length i = j ∨ nbS p.topology c.shape c.states.length i = j) else nbP p.topology c.shape c.states.length i = j) := rfl
  refine PSpec.intro tt_ok mx_ok Tryz.func123 rfl (by decide) ?_; (conv => whnf)
  refine boxP rfl ?_
  conv => whnf
  refine boxP rfl ?_
  conv => whnf
  by_cases h1 : r.direction = 1
  · rw [if_pos h1] at he
    repeat' (first
        | (refine needI (by first | omega | (dsimp only; omega)) ?_; conv => whnf)
        | (refine arI trivial (by omega) ?_; conv => whnf)
        | (refine cmpT (by omega) ?_; conv => whnf)
        | (refine cmpF (by omega) ?_; conv => whnf)
        | fail)
    rw [Int.toNat_natCast, getD_map_range _ _ _ hi]
    refine cmpI (fun h4 => ?_) (fun h4 => ?_) <;> conv => whnf
    · exact ⟨dec_t (by rw [he]; exact h4), rfl⟩
    · exact ⟨dec_f (by rw [he]; exact h4), rfl⟩
  rw [if_neg h1] at he
  by_cases h2 : r.direction = 2
  · rw [if_pos h2] at he
    repeat' (first
        | (refine needI (by first | omega | (dsimp only; omega)) ?_; conv => whnf)
        | (refine arI trivial (by omega) ?_; conv => whnf)
        | (refine cmpT (by omega) ?_; conv => whnf)
        | (refine cmpF (by omega) ?_; conv => whnf)
        | fail)
    rw [Int.toNat_natCast, getD_map_range _ _ _ hi]
    refine cmpI (fun h4 => ?_) (fun h4 => ?_) <;> conv => whnf
    · exact ⟨dec_t (by rw [he]; exact h4), rfl⟩
    · exact ⟨dec_f (by rw [he]; exact h4), rfl⟩
  rw [if_neg h2] at he
  by_cases h3 : r.direction = 3
  · rw [if_pos h3] at he
    repeat' (first
        | (refine needI (by first | omega | (dsimp only; omega)) ?_; conv => whnf)
        | (refine arI trivial (by omega) ?_; conv => whnf)
        | (refine cmpT (by omega) ?_; conv => whnf)
        | (refine cmpF (by omega) ?_; conv => whnf)
        | fail)
    rw [Int.toNat_natCast, getD_map_range _ _ _ hi]
    refine cmpI (fun h4 => ?_) (fun h4 => ?_) <;> conv => whnf
    · exact ⟨dec_t (by rw [he]; exact .inl h4), rfl⟩
    refine needI (by omega) ?_
    rw [Int.toNat_natCast, getD_map_range _ _ _ hi]
    conv => whnf
    refine cmpI (fun h5 => ?_) (fun h5 => ?_) <;> conv => whnf
    · exact ⟨dec_t (by rw [he]; exact .inr h5), rfl⟩
    · exact ⟨dec_f (by rw [he]; exact fun h => h.elim h4 h5), rfl⟩
  · rw [if_neg h3] at he
    repeat' (first
        | (refine needI (by first | omega | (dsimp only; omega)) ?_; conv => whnf)
        | (refine arI trivial (by omega) ?_; conv => whnf)
        | (refine cmpT (by omega) ?_; conv => whnf)
        | (refine cmpF (by omega) ?_; conv => whnf)
        | fail)
    rw [Int.toNat_natCast, getD_map_range _ _ _ hi]
    refine cmpI (fun h4 => ?_) (fun h4 => ?_) <;> conv => whnf
    · exact ⟨dec_t (by rw [he]; exact h4), rfl⟩
    · exact ⟨dec_f (by rw [he]; exact h4), rfl⟩
end Go.Proofs.YtcbckmnbdcjeeaaGreatDoor
