import Derived.Test.YtekmminpfhacpaaGreatDoorM5
import Derived.Test.YtekmminpfhacpaaGreatDoorM7
import Derived.Test.YtekmminpfhacpaaGreatDoorFS
import Derived.Test.YtekmminpfhacpaaGreatDoorY1
import Derived.Test.YtekmminpfhacpaaGreatDoorGA
set_option linter.unusedVariables false
set_option linter.unusedSimpArgs false
namespace Go.Proofs.YtekmminpfhacpaaGreatDoor
def vQ:Sh:=.int (.int (.int .nil))
def Bx:eV vQ->bH
 |(a,b,c,_)=>⟨a,b,c⟩
theorem Jr {S:ai} (y:eV vQ):ur S (bp vQ y) (dG (Bx y)):=by
 obtain⟨a,b,c,⟨⟩⟩:=y
 exact⟨Cv.refl _ _,Cv.refl _ _,Cv.refl _ _,trivial⟩
def C5:Sh:=eJ (eJ (.int (eJ (eJ (.int (.sl vQ .nil))))))
theorem J5:kI Tryz.prog 9 64=some C5:=by kernel_rfl
def tR:eV C5->Rn
 |(a,b,c,d,e,f,g,_)=>⟨⟨iz a,iz b,c,iz d,iz e,f⟩,List.map Bx g⟩
section
variable {S:ai}
theorem G0 (l:List (eV vQ)):Cv S (.sl (gh vQ) (bp vQ) l) (.sl bI dG (l.map Bx)):=
 Cv.sl (d:=gh vQ) (enc:=bp vQ) bI dG Bx fun y _=>⟨Jr y,rfl⟩
theorem G1 (y:eV C5):ur S (bp C5 y) (mA (tR y)):=by
 obtain⟨a,b,c,d,e,f,g,⟨⟩⟩:=y
 exact⟨Cv.ints a,Cv.ints b,Cv.refl _ _,Cv.ints d,Cv.ints e,Cv.refl _ _,G0 g,trivial⟩
end
end Go.Proofs.YtekmminpfhacpaaGreatDoor
namespace Go.Proofs.YtekmminpfhacpaaGreatDoor
open Go.ChangeShapes Go.WideShapes Go.ChangeAt Go.RowKit
theorem G2:rB Tryz.prog 9 64=true:=by kernel_rfl
theorem Bz {y:eV C5} (h:su C5 y):AN (tR y).start/\(tR y).steps.length<=140737488355328:=by
 obtain⟨a,b,c,d,e,f,g,⟨⟩⟩:=y
 obtain⟨⟨h1,_⟩,⟨h2,_⟩,⟨h3,_⟩,⟨h4,_⟩,⟨h5,_⟩,_⟩:=h
 simp only[AN,tR,iI,List.length_map]
 exact⟨⟨h1,h2,h3,h4⟩,h5⟩
end Go.Proofs.YtekmminpfhacpaaGreatDoor
namespace Go.Proofs.YtekmminpfhacpaaGreatDoor
open Go.ChangeShapes Go.WideShapes Go.ChangeAt Go.RowKit
def sn:Sh:=.sl (.int .nil) (.int .nil)
theorem Ma:kI Tryz.prog 9 84=some sn:=by kernel_rfl
theorem Js:rB Tryz.prog 9 84=true:=by kernel_rfl
def BA:eV sn->List Int
 |(a,_,_)=>iz a
def J6:eV sn->Int
 |(_,b,_)=>b
def J7 (sch:List Int) (n:Int):List AV:=[.sl 0 ao sch, .int .i64 n]
theorem Jt {S:ai} (y:eV sn):ur S (bp sn y) (J7 (BA y) (J6 y)):=by
 obtain⟨a,b,⟨⟩⟩:=y
 exact⟨Cv.ints a,Cv.refl _ _,trivial⟩
theorem Mb {y:eV sn} (h:su sn y):(BA y).length<=140737488355328:=by
 obtain⟨a,b,⟨⟩⟩:=y
 simp only[BA,iI]
 exact h.1.1
end Go.Proofs.YtekmminpfhacpaaGreatDoor
