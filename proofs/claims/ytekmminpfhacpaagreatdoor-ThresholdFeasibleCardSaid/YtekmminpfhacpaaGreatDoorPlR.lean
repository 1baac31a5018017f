import Derived.Test.YtekmminpfhacpaaGreatDoorTab
set_option linter.unusedVariables false
set_option linter.unusedSimpArgs false
namespace Go.Proofs.YtekmminpfhacpaaGreatDoor
theorem x6 {a b:Int} (h:a=b):AV.int .i64 a= .int .i64 b:=by rw[h]
theorem am {α:Type} (d:α) {l:List α} {k:Nat} (h:k<l.length):l.getD k d=l[k]:=by
 rw[gD,gL h];rfl
theorem tv {α:Type} {l:List α} {k:Nat} (d:α) (h:k<l.length):l.getD k d∈l:=by
 rw[am d h];exact List.getElem_mem h
theorem Mp {α:Type} {l:List α} {k:Nat} (d:α) (h:k<l.length):l.take (k+1)=l.take k++[l.getD k d]:=by
 rw[List.take_succ_eq_append_getElem h,am d h]
structure br where
 coef:List Int
 const:Int
def av:br:=⟨[],0⟩
def aE (r:br):List AV:=[.sl 0 ak r.coef, .int .i64 r.const]
end Go.Proofs.YtekmminpfhacpaaGreatDoor
