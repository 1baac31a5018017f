/-
  Calling a function that hands out one new row.
-/
import Derived.Test.YtihligeggkpolaaSymU
namespace Go.Proofs.Ytihligeggkpolaa

section
variable {M : Mem} {P : Program}

theorem overM_one (ℓ : Nat) (B : Blk) (M : Mem) : overM [(ℓ, B)] M = M.set ℓ B := by
  funext x
  simp only [overM, Mem.ofL, Mem.set]
  by_cases h : x = ℓ
  · subst h; simp
  · have h1 : Nat.beq ℓ x = false := by rw [Bool.eq_false_iff]; intro hh; exact h (Nat.eq_of_beq_eq_true hh).symm
    have h2 : Nat.beq x ℓ = false := by rw [Bool.eq_false_iff]; intro hh; exact h (Nat.eq_of_beq_eq_true hh)
    simp [h1, h2]

/-- what a function leaves that hands out one row, new -/
def newRow (n sz : Nat) (B : Blk) : AV → Mem → Prop := fun u M => ∃ ℓ0, u = .row ℓ0 n sz ∧ blkR [] 1 (M ℓ0) B

theorem Spec.fresh {f : FuncId} {args : List AV} {K : AV → Mem → Prop} {n sz : Nat} {t : TypeId} {α : Type} {d : α} {enc : α → List AV} {l : List α} (ℓ : Nat)
    (h : Spec P f args (Mem.ofL []) (fun u M => ∃ ℓ0, u = .row ℓ0 n sz ∧ M ℓ0 = some (.row t d enc l))) (hf : (M ℓ).isNone = true) (ha : avRs [] 400 args args)
    (hk : K (.row ℓ n sz) (M.set ℓ (.row t d enc l))) : Spec P f args M K := by
  refine Spec.call [] [] 400 rfl trivial ha h ?_
  rintro u M' ⟨ℓ0, rfl, e⟩
  refine ⟨[(ℓ, .old ℓ0)], [(ℓ, .row t d enc l)], .row ℓ n sz, ?_, ?_, ?_, ?_⟩
  · simp [keysB, oldsB, backB, freshB, Mem.ofL, hf]
  · simp [memR, lmFind, blkR, e]
  · simp [avR, lmFind]
  · rw [overM_one]; exact hk
end

end Go.Proofs.Ytihligeggkpolaa
