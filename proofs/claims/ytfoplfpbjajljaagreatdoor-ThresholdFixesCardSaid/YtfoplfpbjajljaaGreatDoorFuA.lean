import Derived.Test.YtfoplfpbjajljaaGreatDoorPlR
set_option linter.unusedVariables false
set_option linter.unusedSimpArgs false
namespace Go.Proofs.YtfoplfpbjajljaaGreatDoor
set_option maxRecDepth 100000
set_option maxHeartbeats 8000000
structure LSys where
 vars : Int
 rows : List Row
def encSy (s : LSys) : List AV := [.int .i64 s.vars, .sl row0 encRw s.rows]
def numB (n : Int) : Prop := -68719476736 ≤ n ∧ n ≤ 68719476736
instance (n : Int) : Decidable (numB n) := inferInstanceAs (Decidable (_ ∧ _))
def allN_ (l : List Int) : Prop := ∀ j, j < l.length → numB (l.getD j 0)
instance (l : List Int) : Decidable (allN_ l) := inferInstanceAs (Decidable (∀ j, j < l.length → _))
def smlB (r : Row) : Prop := allN_ r.coef ∧ numB r.const
instance (r : Row) : Decidable (smlB r) := inferInstanceAs (Decidable (_ ∧ _))
def widB (s : LSys) : Prop := ∀ j, j < s.rows.length → ((s.rows.getD j row0).coef.length : Int) = s.vars
instance (s : LSys) : Decidable (widB s) := inferInstanceAs (Decidable (∀ j, j < s.rows.length → _))
def smlR (l : List Row) : Prop := ∀ j, j < l.length → smlB (l.getD j row0)
instance (l : List Row) : Decidable (smlR l) := inferInstanceAs (Decidable (∀ j, j < l.length → _))
def sysE (s : LSys) : Int := if s.vars < 0 ∨ 96 < s.vars then 1 else if ¬ widB s then 1 else if 192 < s.rows.length then 4 else if ¬ smlR s.rows then 4 else 0
theorem sysE_ok {s : LSys} (h : sysE s = 0) : (0 ≤ s.vars ∧ s.vars ≤ 96) ∧ widB s ∧ s.rows.length ≤ 192 ∧ smlR s.rows := by
 unfold sysE at h
 by_cases h1 : s.vars < 0 ∨ 96 < s.vars
 ·rw [if_pos h1] at h; omega
 rw [if_neg h1] at h
 by_cases h2 : ¬ widB s
 ·rw [if_pos h2] at h; omega
 rw [if_neg h2] at h
 by_cases h3 : 192 < s.rows.length
 ·rw [if_pos h3] at h; omega
 rw [if_neg h3] at h
 by_cases h4 : ¬ smlR s.rows
 ·rw [if_pos h4] at h; omega
 exact ⟨by omega, Classical.not_not.1 h2, by omega, Classical.not_not.1 h4⟩
theorem sysE_mk {s : LSys} (h1 : 0 ≤ s.vars ∧ s.vars ≤ 96) (h2 : widB s) (h3 : s.rows.length ≤ 192) (h4 : smlR s.rows) : sysE s = 0 := by
 unfold sysE
 rw [if_neg (by omega), if_neg (fun h => h h2), if_neg (by omega), if_neg (fun h => h h4)]
def pntB (x : List Int) : Prop := ∀ j, j < x.length → 0 ≤ x.getD j 0 ∧ x.getD j 0 ≤ 1048576
instance (x : List Int) : Decidable (pntB x) := inferInstanceAs (Decidable (∀ j, j < x.length → _))
def lftK (c x : List Int) : Nat → Int
 |0 => 0
 |k + 1 => lftK c x k + c.getD k 0 * x.getD k 0
def valR (r : Row) (x : List Int) : Int := r.const + lftK r.coef x r.coef.length
theorem mul_36 {a b : Int} (ha : numB a) (hb : 0 ≤ b ∧ b ≤ 1048576) : -72057594037927936 ≤ a * b ∧ a * b ≤ 72057594037927936 := by
 have h1 : a * b ≤ 68719476736 * b := Int.mul_le_mul_of_nonneg_right ha.2 hb.1
 have h2 : -68719476736 * b ≤ a * b := Int.mul_le_mul_of_nonneg_right ha.1 hb.1
 omega
def satB (s : LSys) (x : List Int) : Prop := sysE s = 0 ∧ (x.length : Int) = s.vars ∧ pntB x ∧ ∀ j, j < s.rows.length → 0 ≤ valR (s.rows.getD j row0) x
instance (s : LSys) (x : List Int) : Decidable (satB s x) := inferInstanceAs (Decidable (_ ∧ _))
def subR (v : Nat) (a : Int) (r : Row) : Row := ⟨r.coef.set v 0, r.const + r.coef.getD v 0 * a⟩
def subS (s : LSys) (v : Nat) (a : Int) : LSys := ⟨s.vars, s.rows.map (subR v a)⟩
def subE (s : LSys) (v a : Int) : Int :=
 if sysE s ≠ 0 then sysE s else if v < 0 ∨ s.vars ≤ v ∨ a < 0 ∨ 1048576 < a then 1
 else if ¬ (∀ j, j < s.rows.length → numB (subR v.toNat a (s.rows.getD j row0)).const) then 4 else 0
def sys0 : LSys := ⟨0, []⟩
def subX (s : LSys) (v a : Int) : LSys × Int := if subE s v a = 0 then (subS s v.toNat a, 0) else (sys0, subE s v a)
theorem subS_wid {s : LSys} {v : Nat} {a : Int} (h : widB s) : widB (subS s v a) := by
 intro j hj
 have hj' : j < s.rows.length := by simpa [subS] using hj
 have := h j hj'
 rw [getD_elem row0 hj'] at this
 rw [getD_elem row0 hj]
 simpa [subS, subR] using this
theorem subS_sml {s : LSys} {v : Nat} {a : Int} (h : smlR s.rows) (hc : ∀ j, j < s.rows.length → numB (subR v a (s.rows.getD j row0)).const) : smlR (subS s v a).rows := by
 intro j hj
 have hj' : j < s.rows.length := by simpa [subS] using hj
 have e : (subS s v a).rows.getD j row0 = subR v a (s.rows.getD j row0) := by
  rw [getD_elem row0 hj, getD_elem row0 hj']; simp [subS]
 rw [e]
 refine ⟨fun i hi => ?_, hc j hj'⟩
 have hi' : i < (s.rows.getD j row0).coef.length := by simpa [subR] using hi
 by_cases e2 : v = i
 ·subst e2
  have : (subR v a (s.rows.getD j row0)).coef.getD v 0 = 0 := by
   unfold subR; dsimp only
   rw [gD, List.getElem?_set_self hi']; rfl
  rw [this]; decide
 ·have : (subR v a (s.rows.getD j row0)).coef.getD i 0 = (s.rows.getD j row0).coef.getD i 0 := by
   unfold subR; dsimp only
   rw [gD, List.getElem?_set_ne e2, ← gD]
  rw [this]
  exact (h j hj').1 i hi'
theorem subE_ok {s : LSys} {v a : Int} (h : subE s v a = 0) : sysE s = 0 ∧ (0 ≤ v ∧ v < s.vars) ∧ (0 ≤ a ∧ a ≤ 1048576) ∧ ∀ j, j < s.rows.length → numB (subR v.toNat a (s.rows.getD j row0)).const := by
 unfold subE at h
 by_cases h1 : sysE s ≠ 0
 ·rw [if_pos h1] at h; omega
 rw [if_neg h1] at h
 by_cases h2 : v < 0 ∨ s.vars ≤ v ∨ a < 0 ∨ 1048576 < a
 ·rw [if_pos h2] at h; omega
 rw [if_neg h2] at h
 by_cases h3 : ¬ (∀ j, j < s.rows.length → numB (subR v.toNat a (s.rows.getD j row0)).const)
 ·rw [if_pos h3] at h; omega
 exact ⟨by omega, by omega, by omega, Classical.not_not.1 h3⟩
theorem subE_valid {s : LSys} {v a : Int} (h : subE s v a = 0) : sysE (subS s v.toNat a) = 0 := by
 obtain ⟨h1, h2, h3, h4⟩ := subE_ok h
 obtain ⟨a1, a2, a3, a4⟩ := sysE_ok h1
 exact sysE_mk a1 (subS_wid a2) (by simpa [subS] using a3) (subS_sml a4 h4)
end Go.Proofs.YtfoplfpbjajljaaGreatDoor
