import Derived.Test.YtekmminpfhacpaaGreatDoorM3
set_option linter.unusedVariables false
set_option linter.unusedSimpArgs false
namespace Go.Proofs.YtekmminpfhacpaaGreatDoor
set_option maxRecDepth 100000
set_option maxHeartbeats 4000000
def Od (p:av):Int:=if p.fault=1\/p.fault=2 then 1048576 else 0
structure VC (p:av) (s:dV) (c:ct):Prop where
 len:(c.states.length:Int)=Ek p s
 sta:rE c.states p.states.length
 cor:c.correct=s.n-s.f
 snl:c.sent.length=p.messages.length
 sen:rE c.sent 1048577
 fal:c.faulty.length=p.messages.length
 fau:rE c.faulty (Od p+1)
 va0:0<=c.value
 va1:c.value<1\/c.value<p.values.length
 tre:p.topology=4->(c.shape.length:Int)=s.n/\shp c.shape
 non:p.topology≠4->c.shape.length=0
noncomputable instance decVC (p:av) (s:dV) (c:ct):Decidable (VC p s c):=Classical.propDecidable _
def jY (r:Sh):Sh:=.sl (.int .nil) r
def w4:Sh:=.int (.int (.int (.int .nil)))
def w5:Sh:=.int (.int (.int (.int (.int (.int .nil)))))
def qu:Sh:=.str (.int (.int (.int (.int (.int (jY (.sl w5 (jY (jY (.int (.int (jY (.int (jY (jY (jY (.int .nil)))))))))))))))))
def nE (l:List (iX (.int .nil))):List Int:=l.map (fun x=>x.1)
def Gk (l:List (iX (.str .nil))):List ByteArray:=l.map (fun x=>x.1)
def CF:iX w4->lp
 |(a,b,c,d,_)=>⟨a,b,c,d⟩
def CG:iX w5->fH
 |(a,b,c,d,e,f,_)=>⟨a,b,⟨c,d,e,f⟩⟩
def nX:iX qu->cf
 |(a,b,c,d,e,f,g,h,i,j,k,l,m,n,o,p,q,r,_)=>⟨a,b,c,d,e,f,nE g,List.map CG h,nE i,nE j,k,l,nE m,n,nE o,nE p,nE q,r⟩
section
variable {S:ai}
theorem LT (y:iX w4):A' S (cQ w4 y) (cq (CF y)):=by
 obtain⟨a,b,c,d,⟨⟩⟩:=y
 exact⟨Cv.refl _ _,Cv.refl _ _,Cv.refl _ _,Cv.refl _ _,trivial⟩
theorem LU (y:iX w5):A' S (cQ w5 y) (cg (CG y)):=by
 obtain⟨a,b,c,d,e,f,⟨⟩⟩:=y
 exact⟨Cv.refl _ _,Cv.refl _ _,Cv.refl _ _,Cv.refl _ _,Cv.refl _ _,Cv.refl _ _,trivial⟩
theorem Jy (l:List (iX w4)):Cv S (.sl (jH w4) (cQ w4) l) (.sl eX cq (l.map CF)):=
 Cv.sl (d:=jH w4) (enc:=cQ w4) eX cq CF fun y _=>⟨LT y,rfl⟩
theorem Jz (l:List (iX w5)):Cv S (.sl (jH w5) (cQ w5) l) (.sl aM cg (l.map CG)):=
 Cv.sl (d:=jH w5) (enc:=cQ w5) aM cg CG fun y _=>⟨LU y,rfl⟩
theorem LV (y:iX qu):A' S (cQ qu y) (iL (nX y)):=by
 obtain⟨a,b,c,d,e,f,g,h,i,j,k,l,m,n,o,p,q,r,⟨⟩⟩:=y
 exact⟨Cv.refl _ _,Cv.refl _ _,Cv.refl _ _,Cv.refl _ _,Cv.refl _ _,Cv.refl _ _,Cv.ints g,Jz h,Cv.ints i,Cv.ints j,Cv.refl _ _,Cv.refl _ _,Cv.ints m,Cv.refl _ _,Cv.ints o,Cv.ints p,Cv.ints q,Cv.refl _ _,trivial⟩
theorem JA (l:List (iX qu)):Cv S (.sl (jH qu) (cQ qu) l) (.sl ax iL (l.map nX)):=
 Cv.sl (d:=jH qu) (enc:=cQ qu) ax iL nX fun y _=>⟨LV y,rfl⟩
end
end Go.Proofs.YtekmminpfhacpaaGreatDoor
