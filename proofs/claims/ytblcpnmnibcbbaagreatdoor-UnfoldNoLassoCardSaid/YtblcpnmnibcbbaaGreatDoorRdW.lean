import Derived.Test.YtblcpnmnibcbbaaGreatDoorME
set_option linter.unusedVariables false
set_option linter.unusedSimpArgs false
namespace Go.Proofs.YtblcpnmnibcbbaaGreatDoor
def E2:Sh:=xH (xH (.int (xH (xH (.int (.sl qS (.sl qS .nil)))))))
theorem JC:FW Tryz.prog 9 41=some E2:=by kernel_rfl
def Iv:xy E2->zM
 |(a,b,c,d,e,f,g,h,_)=>⟨⟨nums a,nums b,c,nums d,nums e,f⟩,List.map u6 g,List.map u6 h⟩
theorem Jd {S:ae} (y:xy E2):Dj S (pD E2 y) (Cp (Iv y)):=by
 obtain⟨a,b,c,d,e,f,g,h,⟨⟩⟩:=y
 exact⟨Cv.ints a,Cv.ints b,Cv.refl _ _,Cv.ints d,Cv.ints e,Cv.refl _ _,u9 g,u9 h,trivial⟩
end Go.Proofs.YtblcpnmnibcbbaaGreatDoor
