import Derived.Test.YtnjggjhkfncnlaaGreatDoorGA
import Derived.Test.YtnjggjhkfncnlaaGreatDoorA1
set_option linter.unusedVariables false
set_option linter.unusedSimpArgs false
namespace Go.Proofs.YtnjggjhkfncnlaaGreatDoor
set_option maxRecDepth 100000
set_option maxHeartbeats 16000000
theorem thr_K1 {p : Pro} (ht : thrB p) (hv : validE p = 0) {ri : Int} (hr : 0 ≤ ri ∧ ri < p.rules.length) (i : Int) : K1 p ⟨ri, i, -1⟩:=by
 have hR:=(valid_rule hv (i:=ri.toNat) (by omega)).read
 have h1:=(ht.2.2 ri.toNat (by omega)).1
 have h2:=ht.2.1
 exact ⟨h1, by show (p.rules.getD ri.toNat rul0).write = -1; omega⟩
def cntN (p : Pro) (s : Siz) (c : Cfg) (m : Int) : Int:=c.sent.getD m.toNat 0 + (if p.fault = 1 ∨ p.fault = 2 then c.faulty.getD m.toNat 0 else if p.fault = 3 then s.f else 0)
def unlB (p : Pro) (s : Siz) (c : Cfg) (i : Nat) : Prop:=evalL ((thrL p.rules).getD i thr0).bound s ≤ ((thrL p.rules).getD i thr0).coef * cntN p s c ((thrL p.rules).getD i thr0).message
instance (p : Pro) (s : Siz) (c : Cfg) (i : Nat) : Decidable (unlB p s c i):=inferInstanceAs (Decidable (_ ≤ _))
def unlL (p : Pro) (s : Siz) (c : Cfg) : Nat → List Int
 |0=>[]
 |k + 1=>if unlB p s c k then unlL p s c k ++ [(k : Int)] else unlL p s c k
theorem unlL_len (p : Pro) (s : Siz) (c : Cfg) : ∀ k, (unlL p s c k).length ≤ k
 |0=>Nat.le_refl _
 |k + 1=>by
  have:=unlL_len p s c k
  rw [unlL]
  split
  ·rw [List.length_append]; simp only [List.length_cons, List.length_nil]; omega
  ·omega
theorem unlL_mem (p : Pro) (s : Siz) (c : Cfg) {a : Int} : ∀ {k : Nat}, a ∈ unlL p s c k ↔ ∃ i : Nat, i < k ∧ a = i ∧ unlB p s c i
 |0=>by simp [unlL]
 |k + 1=>by
  rw [unlL]
  have ih:=unlL_mem p s c (a:=a) (k:=k)
  by_cases h : unlB p s c k
  ·rw [if_pos h, List.mem_append, ih, List.mem_singleton]
   constructor
   ·rintro (⟨i, h1, h2, h3⟩ | rfl)
    ·exact ⟨i, by omega, h2, h3⟩
    ·exact ⟨k, by omega, rfl, h⟩
   ·rintro ⟨i, h1, h2, h3⟩
    by_cases e : i = k
    ·subst e; exact .inr h2
    ·exact .inl ⟨i, by omega, h2, h3⟩
  ·rw [if_neg h, ih]
   constructor
   ·rintro ⟨i, h1, h2, h3⟩
    exact ⟨i, by omega, h2, h3⟩
   ·rintro ⟨i, h1, h2, h3⟩
    refine ⟨i, ?_, h2, h3⟩
    by_cases e : i = k
    ·subst e; exact absurd h3 h
    ·omega
end Go.Proofs.YtnjggjhkfncnlaaGreatDoor
