
/-
  Runs, plainly: which steps a run can take, and where it leads.
-/
import Derived.Test.YtgbicnldbhfhiaaGreatDoorFoS
set_option linter.unusedVariables false
set_option linter.unusedSimpArgs false
namespace Go.Proofs.YtgbicnldbhfhiaaGreatDoor
set_option maxRecDepth 100000
set_option maxHeartbeats 16000000

def runOk (p : Pro) (s : Siz) : Cfg → List Stp → Prop
  | _, [] => True
  | cur, x :: xs => enB p s cur x false ∧ apB cur (rulX p x) x ∧ runOk p s (apC cur (rulX p x) x) xs
noncomputable instance decRun (p : Pro) (s : Siz) (c : Cfg) (l : List Stp) : Decidable (runOk p s c l) := Classical.propDecidable _
def tr (p : Pro) : Cfg → List Stp → List Cfg
  | _, [] => []
  | cur, x :: xs => apC cur (rulX p x) x :: tr p (apC cur (rulX p x) x) xs
theorem rp_ok {p : Pro} {s : Siz} : ∀ {xs : List Stp} {acc : List Cfg} {cur : Cfg}, runOk p s cur xs → rp p s acc cur xs = rpA (acc ++ tr p cur xs) 0
  | [], acc, cur, _ => by simp [rp, tr]
  | x :: xs, acc, cur, ⟨h1, h2, h3⟩ => by
    rw [rp, if_pos h1, if_pos h2, rp_ok h3, tr, List.append_assoc]
    rfl
theorem rp_no {p : Pro} {s : Siz} : ∀ {xs : List Stp} {acc : List Cfg} {cur : Cfg}, ¬ runOk p s cur xs → ∃ e, e ≠ 0 ∧ rp p s acc cur xs = rpA [] e
  | [], acc, cur, h => absurd trivial h
  | x :: xs, acc, cur, h => by
    rw [rp]
    by_cases h1 : enB p s cur x false
    · rw [if_pos h1]
      by_cases h2 : apB cur (rulX p x) x
      · rw [if_pos h2]
        exact rp_no fun h3 => h ⟨h1, h2, h3⟩
      · rw [if_neg h2]; exact ⟨4, by decide, rfl⟩
    · rw [if_neg h1]; exact ⟨9, by decide, rfl⟩
theorem runOk_take {p : Pro} {s : Siz} : ∀ {xs : List Stp} {cur : Cfg} (k : Nat), runOk p s cur xs → runOk p s cur (xs.take k)
  | [], _, k, _ => by simp [runOk]
  | _ :: _, _, 0, _ => trivial
  | _ :: _, _, k + 1, ⟨h1, h2, h3⟩ => ⟨h1, h2, runOk_take k h3⟩
theorem tr_take {p : Pro} : ∀ (xs : List Stp) (cur : Cfg) (k : Nat), tr p cur (xs.take k) = (tr p cur xs).take k
  | [], _, k => by simp [tr]
  | _ :: _, _, 0 => rfl
  | x :: xs, cur, k + 1 => by simp only [List.take_succ_cons, tr]; rw [tr_take xs _ k]
theorem tr_len {p : Pro} : ∀ (xs : List Stp) (cur : Cfg), (tr p cur xs).length = xs.length
  | [], _ => rfl
  | x :: xs, cur => by simp only [tr, List.length_cons]; rw [tr_len xs]
/-- the configurations of a run, the first one too -/
def trs (p : Pro) (c : Cfg) (l : List Stp) : List Cfg := c :: tr p c l
theorem trs_len (p : Pro) (c : Cfg) (l : List Stp) : (trs p c l).length = l.length + 1 := by simp [trs, tr_len]
theorem trs_take (p : Pro) (c : Cfg) (l : List Stp) (k : Nat) : trs p c (l.take k) = (trs p c l).take (k + 1) := by
  simp only [trs, List.take_succ_cons]; rw [tr_take]
theorem trs_rdy {p : Pro} {s : Siz} : ∀ {xs : List Stp} {cur : Cfg}, Rdy p s cur → runOk p s cur xs → ∀ i, i ≤ xs.length → Rdy p s ((trs p cur xs).getD i cfg0)
  | _, cur, h, _, 0, _ => h
  | [], _, _, _, i + 1, hi => by simp at hi
  | x :: xs, cur, h, ⟨h1, h2, h3⟩, i + 1, hi => by
    have := trs_rdy (h.next h1 h2) h3 i (by simpa using hi)
    exact this
theorem trs_step {p : Pro} {s : Siz} : ∀ {xs : List Stp} {cur : Cfg}, Rdy p s cur → runOk p s cur xs → ∀ i, i < xs.length →
    enB p s ((trs p cur xs).getD i cfg0) (xs.getD i stp0) false ∧ apB ((trs p cur xs).getD i cfg0) (rulX p (xs.getD i stp0)) (xs.getD i stp0) ∧ (trs p cur xs).getD (i + 1) cfg0 = apC ((trs p cur xs).getD i cfg0) (rulX p (xs.getD i stp0)) (xs.getD i stp0)
  | [], _, _, _, _, hi => by simp at hi
  | x :: xs, cur, h, ⟨h1, h2, h3⟩, 0, _ => ⟨h1, h2, rfl⟩
  | x :: xs, cur, h, ⟨h1, h2, h3⟩, i + 1, hi => trs_step (h.next h1 h2) h3 i (by simpa using hi)
theorem trs_wide {p : Pro} {s : Siz} {c : Cfg} {l : List Stp} (h : Rdy p s c) (hr : runOk p s c l) : ∀ d ∈ trs p c l, wideB d = false := by
  intro d hd
  obtain ⟨i, hi, rfl⟩ := List.mem_iff_getElem.1 hd
  have h1 := trs_rdy h hr i (by rw [trs_len] at hi; omega)
  rw [List.getD_eq_getElem?_getD, List.getElem?_eq_getElem hi] at h1
  exact h1.wide
end Go.Proofs.YtgbicnldbhfhiaaGreatDoor
