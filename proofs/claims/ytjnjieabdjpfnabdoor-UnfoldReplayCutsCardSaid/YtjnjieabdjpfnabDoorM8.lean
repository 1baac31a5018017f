import Derived.Test.YtjnjieabdjpfnabDoorMN
set_option linter.unusedVariables false
set_option linter.unusedSimpArgs false
namespace Go.Proofs.YtjnjieabdjpfnabDoor
set_option maxRecDepth 100000
set_option maxHeartbeats 16000000
def stL (p : Pro) (q : Prp) : List Int := if 0 < q.start.length then q.start else p.initial
def chF (p : Pro) (q : Prp) (s : Siz) (i : Nat) : List Int := if i = 0 ∧ 0 < p.leader.length then p.leader else if (i : Int) < s.n - s.f then stL p q else p.initial
noncomputable def sizQ (p : Pro) (q : Prp) (s : Siz) : Int := if propE p q ≠ 0 then propE p q else sizeE p s
def totN (F : Nat) (ch : Nat → List Int) : Nat → Nat
 |0 => F
 |k + 1 => totN F ch k * (ch k).length
def iniB (F : Nat) (ch : Nat → List Int) (n : Nat) : Prop := ∀ k, k < n → totN F ch (k + 1) ≤ 4000
noncomputable instance decIni (F : Nat) (ch : Nat → List Int) (n : Nat) : Decidable (iniB F ch n) := Classical.propDecidable _
end Go.Proofs.YtjnjieabdjpfnabDoor
