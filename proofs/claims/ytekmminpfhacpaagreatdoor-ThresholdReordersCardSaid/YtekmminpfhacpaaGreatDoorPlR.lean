import Derived.Test.YtekmminpfhacpaaGreatDoorTab
set_option linter.unusedVariables false
set_option linter.unusedSimpArgs false
namespace Go.Proofs.YtekmminpfhacpaaGreatDoor
theorem C6 {a b:Int} (h:a=b):AV.int .i64 a= .int .i64 b:=by rw[h]
theorem av {α:Type} (d:α) {l:List α} {k:Nat} (h:k<l.length):l.getD k d=l[k]:=by
 rw[gD,gL h];rfl
structure fo where
 coef:List Int
 const:Int
def cP:fo:=⟨[],0⟩
def dM (r:fo):List AV:=[.sl 0 ao r.coef, .int .i64 r.const]
end Go.Proofs.YtekmminpfhacpaaGreatDoor
