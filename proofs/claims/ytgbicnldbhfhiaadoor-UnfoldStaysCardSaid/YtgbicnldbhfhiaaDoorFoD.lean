
/-
  Bad, by the program and by the document's answer; the law UnfoldJudges.
-/
import Derived.Test.YtgbicnldbhfhiaaDoorFoC
set_option linter.unusedVariables false
set_option linter.unusedSimpArgs false
namespace Go.Proofs.YtgbicnldbhfhiaaDoor
set_option maxRecDepth 100000
set_option maxHeartbeats 8000000

def cokB (q : Prp) (c : Cfg) : Prop := ∀ j, j < q.bad.length → (q.bad.getD j cnt0).least ≤ hitN (q.bad.getD j cnt0).states (c.states.take c.correct.toNat)
def badB (p : Pro) (q : Prp) (c : Cfg) : Prop := cokB q c ∧ (q.adjacent.length = 0 ∨ adjB p c q.adjacent)
noncomputable instance decBad (p : Pro) (q : Prp) (c : Cfg) : Decidable (badB p q c) := Classical.propDecidable _
theorem hit_zero (S L : List Int) : hitN (S.take 0) L = 0 := by
  simp [hitN]
theorem hit_zero' (S L : List Int) : hitN S (L.take 0) = 0 := by
  simp [hitN]
theorem hit_up {S L : List Int} {i : Nat} (hi : incr S) (h : i < S.length) : hitN (S.take (i + 1)) L = hitN (S.take i) L + L.count (S.getD i 0) := by
  have e : S.getD i 0 = S[i] := by rw [List.getD_eq_getElem?_getD, List.getElem?_eq_getElem h]; rfl
  have := hit_snoc (incr_fresh hi h) L
  rw [List.take_succ_eq_append_getElem h, ← e]
  exact this
end Go.Proofs.YtgbicnldbhfhiaaDoor
