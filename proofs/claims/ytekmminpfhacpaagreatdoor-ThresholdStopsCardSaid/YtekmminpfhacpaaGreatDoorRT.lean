import Derived.Test.YtekmminpfhacpaaGreatDoorFS
set_option linter.unusedVariables false
set_option linter.unusedSimpArgs false
namespace Go.Proofs.YtekmminpfhacpaaGreatDoor
section
def r8:Sh:=.int (.int (.int .nil))
def w8:eC r8->cj
 |(a,b,c,_)=>⟨a,b,c⟩
theorem DX {S:ai} (y:eC r8):r9 S (bg r8 y) (ef (w8 y)):=by
 obtain⟨a,b,c,⟨⟩⟩:=y
 exact⟨Cv.refl _ _,Cv.refl _ _,Cv.refl _ _,trivial⟩
def yw:Sh:=eO (eO (.int (eO (eO (.int (.sl r8 .nil))))))
theorem HA:kz Tryz.prog 9 64=some yw:=by kernel_rfl
def ul:eC yw->Rn
 |(a,b,c,d,e,f,g,_)=>⟨⟨ip a,ip b,c,ip d,ip e,f⟩,List.map w8 g⟩
section
variable {S:ai}
theorem BT (l:List (eC r8)):Cv S (.sl (e7 r8) (bg r8) l) (.sl cH ef (l.map w8)):=
 Cv.sl (d:=e7 r8) (enc:=bg r8) cH ef w8 fun y _=>⟨DX y,rfl⟩
theorem Gf (y:eC yw):r9 S (bg yw y) (wU (ul y)):=by
 obtain⟨a,b,c,d,e,f,g,⟨⟩⟩:=y
 exact⟨Cv.ints a,Cv.ints b,Cv.refl _ _,Cv.ints d,Cv.ints e,Cv.refl _ _,BT g,trivial⟩
end
end
section
open Go.ChangeShapes Go.WideShapes Go.ChangeAt Go.RowKit
theorem Gg:tM Tryz.prog 9 64=true:=by kernel_rfl
theorem Ew {y:eC yw} (h:qr yw y):yk (ul y).start/\(ul y).steps.length<=140737488355328:=by
 obtain⟨a,b,c,d,e,f,g,⟨⟩⟩:=y
 obtain⟨⟨h1,_⟩,⟨h2,_⟩,⟨h3,_⟩,⟨h4,_⟩,⟨h5,_⟩,_⟩:=h
 simp only[yk,ul,jK,List.length_map]
 exact⟨⟨h1,h2,h3,h4⟩,h5⟩
end
section
open Go.ChangeShapes Go.WideShapes Go.ChangeAt Go.RowKit
end
end Go.Proofs.YtekmminpfhacpaaGreatDoor
