import Derived.Test.YtekmminpfhacpaaGreatDoorM2
set_option linter.unusedVariables false
set_option linter.unusedSimpArgs false
namespace Go.Proofs.YtekmminpfhacpaaGreatDoor
set_option maxRecDepth 100000
set_option maxHeartbeats 8000000
theorem GG {a:Int} {l:List Int} (h:a=0):fF (a::l)=fF l:=by rw[fF,if_neg (by omega)]
theorem Bc {a:Int} {l:List Int} (h:a≠0):fF (a::l)=a:=by rw[fF,if_pos h]
theorem GH (l m:List Int):fF (l++m)=if fF l≠0 then fF l else fF m:=by
 induction l with
 |nil=>simp[fF]
 |cons a l ih=>
  simp only[List.cons_append,fF]
  by_cases h:a=0
  ·simp[h,ih]
  ·simp[h]
end Go.Proofs.YtekmminpfhacpaaGreatDoor
