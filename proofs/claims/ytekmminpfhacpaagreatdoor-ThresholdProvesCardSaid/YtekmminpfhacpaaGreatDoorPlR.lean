import Derived.Test.YtekmminpfhacpaaGreatDoorTab
set_option linter.unusedVariables false
set_option linter.unusedSimpArgs false
namespace Go.Proofs.YtekmminpfhacpaaGreatDoor
theorem x8 {a b:Int} (h:a=b):AV.int .i64 a= .int .i64 b:=by rw[h]
theorem NW {a b:Bool} (h:a=b):AV.bool a= .bool b:=by rw[h]
theorem ap {α:Type} (d:α) {l:List α} {k:Nat} (h:k<l.length):l.getD k d=l[k]:=by
 rw[gD,gL h];rfl
theorem qm {α:Type} {l:List α} {k:Nat} (d:α) (h:k<l.length):l.getD k d∈l:=by
 rw[ap d h];exact List.getElem_mem h
theorem KO {α:Type} {l:List α} {k:Nat} (d:α) (h:k<l.length):l.take (k+1)=l.take k++[l.getD k d]:=by
 rw[List.take_succ_eq_append_getElem h,ap d h]
structure aV where
 coef:List Int
 const:Int
def ar:aV:=⟨[],0⟩
def aw (r:aV):List AV:=[.sl 0 al r.coef, .int .i64 r.const]
end Go.Proofs.YtekmminpfhacpaaGreatDoor
