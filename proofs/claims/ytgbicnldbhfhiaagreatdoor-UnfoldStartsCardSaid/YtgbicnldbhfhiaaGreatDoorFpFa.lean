
/-
  Initial, by the program.
-/
import Derived.Test.YtgbicnldbhfhiaaGreatDoorFpE
set_option linter.unusedVariables false
set_option linter.unusedSimpArgs false
namespace Go.Proofs.YtgbicnldbhfhiaaGreatDoor
set_option maxRecDepth 100000
set_option maxHeartbeats 16000000

noncomputable def iniE (p : Pro) (q : Prp) (s : Siz) : AV := if sizQ p q s ≠ 0 then rpA [] (sizQ p q s) else iniA p q s
theorem iniA_form (p : Pro) (q : Prp) (s : Siz) : ∃ l e, iniA p q s = rpA l e := by
  unfold iniA
  split
  · exact ⟨_, _, rfl⟩
  · exact ⟨_, _, rfl⟩
theorem iniE_form (p : Pro) (q : Prp) (s : Siz) : ∃ l e, iniE p q s = rpA l e := by
  unfold iniE
  split
  · exact ⟨_, _, rfl⟩
  · exact iniA_form p q s
theorem InitialF (p : Pro) (q : Prp) (s : Siz) (hp : ¬ bigP p) (hq : ¬ bigQ q) : PSpec Tryz.prog 21 [.agg (encP p), .agg (encQ q), .agg (encZ s)] (fun u => u = iniE p q s) := by
  have he := iniE.eq_1 p q s
  refine PSpec.rp (iniE_form p q s) ?_
  refine PSpec.intro tt_ok mx_ok Tryz.func21 rfl (by decide) ?_; (conv => whnf)
  refine boxP rfl ?_
  conv => whnf
  refine boxP rfl ?_
  conv => whnf
  refine boxP rfl ?_
  conv => whnf
  (refine Spec.of_pure (n := 5) (checkAllF p q s hp hq) rfl ?_; rintro _ rfl; conv => whnf)
  refine cmpI (fun h1 => ?_) (fun h1 => ?_) <;> conv => whnf
  · rw [if_pos h1] at he; exact ⟨.inr ⟨_, rfl, he⟩, rfl⟩
  rw [if_neg h1] at he
  have hz := sizQ_ok (p := p) (q := q) (s := s) (by omega)
  have hI := PSpec.rp (iniA_form p q s) (initialF p q s hp hq hz.1 hz.2)
  obtain ⟨l, e, hl⟩ := iniA_form p q s
  rw [hl] at hI he
  (refine Spec.of_pure (n := 5) (hI) rfl ?_; rintro _ rfl; conv => whnf)
  exact ⟨.inl he.symm, rfl⟩
end Go.Proofs.YtgbicnldbhfhiaaGreatDoor
