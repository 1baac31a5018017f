import Derived.Test.YtnjggjhkfncnlaaGreatDoorTab
set_option linter.unusedVariables false
set_option linter.unusedSimpArgs false
namespace Go.Proofs.YtnjggjhkfncnlaaGreatDoor
theorem n9 {a b:Int} (h:a=b):AV.int .i64 a= .int .i64 b:=by rw[h]
theorem ay {α:Type} (d:α) {l:List α} {k:Nat} (h:k<l.length):l.getD k d=l[k]:=by
 rw[gD,gL h];rfl
structure cK where
 coef:List Int
 const:Int
def bz:cK:=⟨[],0⟩
def bE (r:cK):List AV:=[.sl 0 an r.coef, .int .i64 r.const]
end Go.Proofs.YtnjggjhkfncnlaaGreatDoor
