import Derived.Test.YtjnjieabdjpfnabDoorA1
set_option linter.unusedVariables false
set_option linter.unusedSimpArgs false
namespace Go.Proofs.YtjnjieabdjpfnabDoor
theorem shSteps : shOf Tryd.prog 9 42 = some (.sl stpS .nil) := by kernel_rfl
theorem rp_steps {S : Store} {v : Value} (y : Den (.sl stpS .nil)) (h : RPs S [v] (encS (.sl stpS .nil) y)) : RP S v (.sl stp0 encX (List.map stpOf y.1)) := by
 obtain ⟨l, ⟨⟩⟩ := y
 obtain ⟨x, xs, e, hr, _⟩ := h.cons_inv
 injection e with e1 _
 subst e1
 exact cv_steps l v hr
def swpS : Sh := .int (.int .nil)
structure Swp where
 a : Int
 b : Int
def encSw (x : Swp) : List AV := [.int .i64 x.a, .int .i64 x.b]
theorem shSwap : shOf Tryd.prog 9 49 = some swpS := by kernel_rfl
def swpOf : Den swpS → Swp
 |(a, b, _) => ⟨a, b⟩
theorem cv_swap {S : Store} (y : Den swpS) : CvL S (encS swpS y) (encSw (swpOf y)) := by
 obtain ⟨a, b, ⟨⟩⟩ := y
 exact ⟨Cv.refl _ _, Cv.refl _ _, trivial⟩
end Go.Proofs.YtjnjieabdjpfnabDoor
