
/-
  Violations, by the program and by the document's answer; the law UnfoldViolates.
-/
import Derived.Test.YtcbckmnbdcjeeaaGreatDoorA1
import Derived.Test.YtcbckmnbdcjeeaaGreatDoorFpBa
set_option linter.unusedVariables false
set_option linter.unusedSimpArgs false
namespace Go.Proofs.YtcbckmnbdcjeeaaGreatDoor
set_option maxRecDepth 100000
set_option maxHeartbeats 16000000

/-! ### violations -/
def vioB (p : Pro) (q : Prp) (s : Siz) (r : Rn) : Prop := sizQ p q s = 0 ∧ q.kind = 1 ∧ isI p q s r.start ∧ runOk p s r.start r.steps ∧ badB p q ((trs p r.start r.steps).getD r.steps.length cfg0)
noncomputable instance decVio (p : Pro) (q : Prp) (s : Siz) (r : Rn) : Decidable (vioB p q s r) := Classical.propDecidable _
theorem rdy_of {p : Pro} {s : Siz} {c : Cfg} (hp : ¬ bigP p) (hw : wideB c = false) (hz : sizeE p s = 0) (hv : VC p s c) : Rdy p s c :=
  Rdy.of hp hw (by
    have : vcE p s c = 0 := by unfold vcE; rw [if_pos hv]
    unfold vconE; rw [if_neg (by omega)]; exact this)
theorem Rdy.plain {p : Pro} {s : Siz} {c : Cfg} (h : Rdy p s c) : plB p c := by
  have hv := h.vc
  have hf := h.sz
  have hl := hv.len
  refine ⟨hv.sta, by rw [hv.cor]; omega, ?_⟩
  rw [hv.cor, hl]
  unfold modN
  split <;> omega
end Go.Proofs.YtcbckmnbdcjeeaaGreatDoor
