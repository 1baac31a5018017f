import Derived.Test.YtekmminpfhacpaaGreatDoorM3
set_option linter.unusedVariables false
set_option linter.unusedSimpArgs false
namespace Go.Proofs.YtekmminpfhacpaaGreatDoor
set_option maxRecDepth 100000
set_option maxHeartbeats 4000000
def Bh (p:ap):Int:=if p.fault=1\/p.fault=2 then 1048576 else 0
structure VC (p:ap) (s:aN) (c:aD):Prop where
 len:(c.states.length:Int)=iy p s
 sta:qA c.states p.states.length
 cor:c.correct=s.n-s.f
 snl:c.sent.length=p.messages.length
 sen:qA c.sent 1048577
 fal:c.faulty.length=p.messages.length
 fau:qA c.faulty (Bh p+1)
 va0:0<=c.value
 va1:c.value<1\/c.value<p.values.length
 tre:p.topology=4->(c.shape.length:Int)=s.n/\shp c.shape
 non:p.topology≠4->c.shape.length=0
noncomputable instance decVC (p:ap) (s:aN) (c:aD):Decidable (VC p s c):=Classical.propDecidable _
noncomputable def wU (p:ap) (s:aN) (c:aD):Int:=if VC p s c then 0 else 1
theorem wV (l:List Int) (m:Int) (hl:l.length<=1000):ab Tryz.prog 183 [.sl 0 ak l, .int .i64 m] (fun u=>u= .bool (decide (qA l (m+1)))):=by
 refine ab.intro ae ag Tryz.func183 rfl (by decide) ?_;(conv=>whnf)
 refine a8.loopF ae ag (fun k:Nat=>k<=l.length/\∀j,j<k->0<=l.getD j 0/\l.getD j 0<m+1) (fun k=>[(9, .int .i64 (k:Int))]) (fun _=>[]) (fun k=>l.length-k) 0 ⟨by omega,fun j hj=>by omega⟩ ?_;conv=>whnf
 refine⟨sI,?_⟩
 rintro k ⟨hk,ha⟩
 conv=>whnf
 refine ai ?_ ?_<;>(intro h1;conv=>whnf)
 ·refine nI ?_
  rw[tN]
  by_cases h2:0<=l.getD k 0/\l.getD k 0<m+1
  ·conv=>whnf
   repeat' ((first|refine nI ?_|refine aI ?_|refine tI ?_|refine fI ?_|fail);conv=>whnf)
   refine⟨k+1,sI,⟨by omega,fun j hj=>?_⟩,by dsimp only;omega⟩
   by_cases e:j=k
   ·subst e;omega
   ·exact ha j (by omega)
  ·conv=>whnf
   repeat' ((first|refine nI ?_|refine aI ?_|refine uI ?_|refine vI ?_|refine dI ?_|refine dR ?_|refine dP ?_|refine ar rfl ?_|refine pI _ rfl ?_|refine an _ rfl ?_|refine tI ?_|refine fI ?_|refine ai (fun _=>?_) (fun _=>?_))<;>conv=>whnf)
   all_goals exact⟨aC (fun h=>h2 (h k (by omega))),rfl⟩
 ·exact⟨bk (fun j hj=>ha j (by omega)),rfl⟩
theorem y6 {l:List Int} (h:shp l):pk l≠[]:=by
 intro e
 have h1:=CG h
 have h2:(pk l).length=l.length:=by simp[pk]
 rw[e] at h2
 simp at h2
 omega
theorem wW (p:ap) (s:aN) (c:aD) (hp:¬jZ p) (hw:dA c=false) (hs:0<=s.n/\s.n<=1048576/\0<=s.f/\s.f<=1048576):ab Tryz.prog 95 [.agg (dg p), .agg (gr s), .agg (cy c)] (fun u=>u= .int .i64 (wU p s c)):=by
 have hle:=eX hp
 have hc:c.shape.length<=100/\c.states.length<=100/\c.sent.length<=100/\c.faulty.length<=100:=by
  unfold dA at hw
  simp at hw
  omega
 have bad:¬VC p s c->wU p s c=1:=fun h=>by rw[wU,if_neg h]
 refine ab.intro ae ag Tryz.func95 rfl (by decide) ?_;(conv=>whnf)
 refine ar rfl ?_
 conv=>whnf
 refine ar rfl ?_
 conv=>whnf
 refine ar rfl ?_
 conv=>whnf
 have hwl:(Bh p=1048576/\(p.fault=1\/p.fault=2))\/(Bh p=0/\¬(p.fault=1\/p.fault=2)):=by
  unfold Bh
  by_cases h:p.fault=1\/p.fault=2
  ·rw[if_pos h];exact .inl ⟨rfl,h⟩
  ·rw[if_neg h];exact .inr ⟨rfl,h⟩
 have ht4:p.topology=4\/p.topology≠4:=by omega
 rcases ht4 with ht|ht<;>rcases hwl with ⟨hwl,hfa⟩|⟨hwl,hfa⟩
 all_goals
  repeat' (first|(refine tI ?_;conv=>whnf)|(refine fI ?_;conv=>whnf)|(refine ai ?_ ?_<;>(intro _;conv=>whnf)))
 all_goals
  refine dI ?_
  conv=>whnf
  (refine oC (y5 p s hs) ?_;conv=>whnf)
  refine ai ?_ ?_<;>(intro h1;conv=>whnf)
  case refine_2=>
   repeat' ((first|refine nI ?_|refine aI ?_|refine tI ?_|refine fI ?_|fail);conv=>whnf)
   exact⟨aq (bad (fun h=>h1 h.len)).symm,rfl⟩
  repeat' ((first|refine nI ?_|refine aI ?_|refine tI ?_|refine fI ?_|fail);conv=>whnf)
  refine dD (wV c.states _ (by omega)) (fun _=>?_) (fun _=>?_)<;>(conv=>whnf)
  case refine_2=>
   rename_i h
   repeat' ((first|refine nI ?_|refine aI ?_|refine tI ?_|refine fI ?_|fail);conv=>whnf)
   exact⟨aq (bad (fun hh=>h (by have:=hh.sta;rwa [show(p.states.length:Int)-1+1=p.states.length by omega]))).symm,rfl⟩
  rename_i h2
  rw[show(p.states.length:Int)-1+1=p.states.length by omega] at h2
  repeat' ((first|refine nI ?_|refine aI ?_|refine tI ?_|refine fI ?_|fail);conv=>whnf)
  refine ai ?_ ?_<;>(intro h3;conv=>whnf)
  case refine_2=>
   repeat' ((first|refine nI ?_|refine aI ?_|refine tI ?_|refine fI ?_|fail);conv=>whnf)
   exact⟨aq (bad (fun h=>h3 h.cor)).symm,rfl⟩
  refine ai ?_ ?_<;>(intro h4;conv=>whnf)
  case refine_2=>
   repeat' ((first|refine nI ?_|refine aI ?_|refine tI ?_|refine fI ?_|fail);conv=>whnf)
   exact⟨aq (bad (fun h=>h4 (by have:=h.snl;omega))).symm,rfl⟩
  refine dD (wV c.sent _ (by omega)) (fun _=>?_) (fun _=>?_)<;>(conv=>whnf)
  case refine_2=>
   rename_i h
   repeat' ((first|refine nI ?_|refine aI ?_|refine tI ?_|refine fI ?_|fail);conv=>whnf)
   exact⟨aq (bad (fun hh=>h hh.sen)).symm,rfl⟩
  rename_i h5
  refine ai ?_ ?_<;>(intro h6;conv=>whnf)
  case refine_2=>
   repeat' ((first|refine nI ?_|refine aI ?_|refine tI ?_|refine fI ?_|fail);conv=>whnf)
   exact⟨aq (bad (fun h=>h6 (by have:=h.fal;omega))).symm,rfl⟩
  refine dD (wV c.faulty _ (by omega)) (fun _=>?_) (fun _=>?_)<;>(conv=>whnf)
  case refine_2=>
   rename_i h
   repeat' ((first|refine nI ?_|refine aI ?_|refine tI ?_|refine fI ?_|fail);conv=>whnf)
   exact⟨aq (bad (fun hh=>h (by have:=hh.fau;rwa [hwl] at this))).symm,rfl⟩
  rename_i h7
  refine ai ?_ ?_<;>(intro h8;conv=>whnf)
  case refine_2=>
   repeat' ((first|refine nI ?_|refine aI ?_|refine tI ?_|refine fI ?_|fail);conv=>whnf)
   exact⟨aq (bad (fun h=>h8 h.va0)).symm,rfl⟩
  refine ai ?_ ?_<;>(intro h9;conv=>whnf)
  case refine_2=>
   repeat' ((first|refine nI ?_|refine aI ?_|refine tI ?_|refine fI ?_|fail);conv=>whnf)
   exact⟨aq (bad (fun h=>h9 (by have:=h.va1;split<;>omega))).symm,rfl⟩
  have hva1:c.value<1\/c.value<p.values.length:=by split at h9<;>omega
  repeat' ((first|refine nI ?_|refine aI ?_|refine tI ?_|refine fI ?_|fail);conv=>whnf)
  refine ai ?_ ?_<;>(intro h10;conv=>whnf)
 all_goals try first
  |exact⟨aq (bad (fun h=>by have:=h.tre ht;omega)).symm,rfl⟩
  |exact⟨aq (bad (fun h=>by have:=h.non ht;omega)).symm,rfl⟩
  |exact⟨aq (by rw[wU,if_pos ⟨h1,h2,h3,by omega,h5,by omega,by rw[hwl];exact h7,h8,hva1,fun h=>absurd h ht,fun _=>by omega⟩]),rfl⟩
  |skip
 all_goals
  have hE:=CH c.shape (by omega)
  by_cases hsh:shp c.shape
  ·rw[if_pos hsh] at hE
   (refine oP (hE) ?_;conv=>whnf)
   refine bp (y6 hsh) ?_
   conv=>whnf
   exact⟨aq (by rw[wU,if_pos ⟨h1,h2,h3,by omega,h5,by omega,by rw[hwl];exact h7,h8,hva1,fun _=>⟨h10,hsh⟩,fun h=>absurd ht h⟩]),rfl⟩
  ·rw[if_neg hsh] at hE
   (refine oP (hE) ?_;conv=>whnf)
   exact⟨aq (bad (fun h=>hsh (h.tre ht).2)).symm,rfl⟩
noncomputable def du (p:ap) (s:aN) (c:aD):Int:=if dV p s≠0 then dV p s else wU p s c
theorem lu (p:ap) (s:aN) (c:aD) (hp:¬jZ p) (hw:dA c=false):ab Tryz.prog 151 [.agg (dg p), .agg (gr s), .agg (cy c)] (fun u=>u= .int .i64 (du p s c)):=by
 refine ab.intro ae ag Tryz.func151 rfl (by decide) ?_;(conv=>whnf)
 refine ar rfl ?_
 conv=>whnf
 refine ar rfl ?_
 conv=>whnf
 refine ar rfl ?_
 conv=>whnf
 (refine oP (Bg p s hp) ?_;conv=>whnf)
 refine ai ?_ ?_<;>(intro h1;conv=>whnf)
 ·exact⟨aq (by rw[du,if_pos h1]),rfl⟩
 ·have:=kv (p:=p) (s:=s) (by omega)
  (refine oP (wW p s c hp hw (by omega)) ?_;conv=>whnf)
  exact⟨aq (by rw[du,if_neg h1]),rfl⟩
def jP (r:Sh):Sh:=.sl (.int .nil) r
def wX:Sh:=.int (.int (.int (.int .nil)))
def wY:Sh:=.int (.int (.int (.int (.int (.int .nil)))))
def qD:Sh:=.str (.int (.int (.int (.int (.int (jP (.sl wY (jP (jP (.int (.int (jP (.int (jP (jP (jP (.int .nil)))))))))))))))))
def mJ (l:List (gY (.int .nil))):List Int:=l.map (fun x=>x.1)
def GK (l:List (gY (.str .nil))):List ByteArray:=l.map (fun x=>x.1)
def CK:gY wX->l7
 |(a,b,c,d,_)=>⟨a,b,c,d⟩
def CL:gY wY->fL
 |(a,b,c,d,e,f,_)=>⟨a,b,⟨c,d,e,f⟩⟩
def oc:gY qD->bE
 |(a,b,c,d,e,f,g,h,i,j,k,l,m,n,o,p,q,r,_)=>⟨a,b,c,d,e,f,mJ g,List.map CL h,mJ i,mJ j,k,l,mJ m,n,mJ o,mJ p,mJ q,r⟩
section
variable {S:ah}
theorem NI (y:gY wX):Am S (cu wX y) (cV (CK y)):=by
 obtain⟨a,b,c,d,⟨⟩⟩:=y
 exact⟨Cv.refl _ _,Cv.refl _ _,Cv.refl _ _,Cv.refl _ _,trivial⟩
theorem NJ (y:gY wY):Am S (cu wY y) (dJ (CL y)):=by
 obtain⟨a,b,c,d,e,f,⟨⟩⟩:=y
 exact⟨Cv.refl _ _,Cv.refl _ _,Cv.refl _ _,Cv.refl _ _,Cv.refl _ _,Cv.refl _ _,trivial⟩
theorem KE (l:List (gY wX)):Cv S (.sl (jy wX) (cu wX) l) (.sl ik cV (l.map CK)):=
 Cv.sl (d:=jy wX) (enc:=cu wX) ik cV CK fun y _=>⟨NI y,rfl⟩
theorem KF (l:List (gY wY)):Cv S (.sl (jy wY) (cu wY) l) (.sl aW dJ (l.map CL)):=
 Cv.sl (d:=jy wY) (enc:=cu wY) aW dJ CL fun y _=>⟨NJ y,rfl⟩
theorem NK (y:gY qD):Am S (cu qD y) (iu (oc y)):=by
 obtain⟨a,b,c,d,e,f,g,h,i,j,k,l,m,n,o,p,q,r,⟨⟩⟩:=y
 exact⟨Cv.refl _ _,Cv.refl _ _,Cv.refl _ _,Cv.refl _ _,Cv.refl _ _,Cv.refl _ _,Cv.ints g,KF h,Cv.ints i,Cv.ints j,Cv.refl _ _,Cv.refl _ _,Cv.ints m,Cv.refl _ _,Cv.ints o,Cv.ints p,Cv.ints q,Cv.refl _ _,trivial⟩
theorem KG (l:List (gY qD)):Cv S (.sl (jy qD) (cu qD) l) (.sl au iu (l.map oc)):=
 Cv.sl (d:=jy qD) (enc:=cu qD) au iu oc fun y _=>⟨NK y,rfl⟩
end
end Go.Proofs.YtekmminpfhacpaaGreatDoor
