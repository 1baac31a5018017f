import Derived.Test.YtekmminpfhacpaaGreatDoorTab
set_option linter.unusedVariables false
set_option linter.unusedSimpArgs false
namespace Go.Proofs.YtekmminpfhacpaaGreatDoor
theorem xA {a b:Int} (h:a=b):AV.int .i64 a= .int .i64 b:=by rw[h]
theorem au {α:Type} (d:α) {l:List α} {k:Nat} (h:k<l.length):l.getD k d=l[k]:=by
 rw[gD,gL h];rfl
structure eN where
 coef:List Int
 const:Int
def eZ:eN:=⟨[],0⟩
def d6 (r:eN):List AV:=[.sl 0 ao r.coef, .int .i64 r.const]
end Go.Proofs.YtekmminpfhacpaaGreatDoor
