import Derived.Test.YtekmminpfhacpaaGreatDoorFS
set_option linter.unusedVariables false
set_option linter.unusedSimpArgs false
namespace Go.Proofs.YtekmminpfhacpaaGreatDoor
section
section
variable {S:ah}
end
end
section
open Go.ChangeShapes Go.WideShapes Go.ChangeAt Go.RowKit
end
section
open Go.ChangeShapes Go.WideShapes Go.ChangeAt Go.RowKit
def ug:Sh:=.sl (.int .nil) (.int .nil)
theorem Pc:wL Tryz.prog 9 84=some ug:=by kernel_rfl
theorem LQ:zc Tryz.prog 9 84=true:=by kernel_rfl
def DE:gY ug->List Int
 |(a,_,_)=>mJ a
def MS:gY ug->Int
 |(_,b,_)=>b
def MT (sch:List Int) (n:Int):List AV:=[.sl 0 ak sch, .int .i64 n]
theorem LR {S:ah} (y:gY ug):Am S (cu ug y) (MT (DE y) (MS y)):=by
 obtain⟨a,b,⟨⟩⟩:=y
 exact⟨Cv.ints a,Cv.refl _ _,trivial⟩
theorem Pd {y:gY ug} (h:vF ug y):(DE y).length<=140737488355328:=by
 obtain⟨a,b,⟨⟩⟩:=y
 simp only[DE,mS]
 exact h.1.1
end
end Go.Proofs.YtekmminpfhacpaaGreatDoor
