import Derived.Test.YtnjggjhkfncnlaaGreatDoorTab
set_option linter.unusedVariables false
set_option linter.unusedSimpArgs false
namespace Go.Proofs.YtnjggjhkfncnlaaGreatDoor
theorem avI {a b : Int} (h : a = b) : AV.int .i64 a = .int .i64 b:=by rw [h]
theorem getD_elem {α : Type} (d : α) {l : List α} {k : Nat} (h : k < l.length) : l.getD k d = l[k]:=by
 rw [gD, gL h]; rfl
structure Row where
 coef : List Int
 const : Int
def row0 : Row:=⟨[], 0⟩
def encRw (r : Row) : List AV:=[.sl 0 encI r.coef, .int .i64 r.const]
end Go.Proofs.YtnjggjhkfncnlaaGreatDoor
