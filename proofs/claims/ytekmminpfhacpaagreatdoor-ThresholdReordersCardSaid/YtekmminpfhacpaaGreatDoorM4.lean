import Derived.Test.YtekmminpfhacpaaGreatDoorM3
set_option linter.unusedVariables false
set_option linter.unusedSimpArgs false
namespace Go.Proofs.YtekmminpfhacpaaGreatDoor
set_option maxRecDepth 100000
set_option maxHeartbeats 4000000
def yM (p:an):Int:=if p.fault=1\/p.fault=2 then 1048576 else 0
structure VC (p:an) (s:aJ) (c:az):Prop where
 len:(c.states.length:Int)=gk p s
 sta:lV c.states p.states.length
 cor:c.correct=s.n-s.f
 snl:c.sent.length=p.messages.length
 sen:lV c.sent 1048577
 fal:c.faulty.length=p.messages.length
 fau:lV c.faulty (yM p+1)
 va0:0<=c.value
 va1:c.value<1\/c.value<p.values.length
 tre:p.topology=4->(c.shape.length:Int)=s.n/\shp c.shape
 non:p.topology≠4->c.shape.length=0
noncomputable instance decVC (p:an) (s:aJ) (c:az):Decidable (VC p s c):=Classical.propDecidable _
noncomputable def pB (p:an) (s:aJ) (c:az):Int:=if VC p s c then 0 else 1
theorem uw (l:List Int) (m:Int) (hl:l.length<=1000):ab Tryz.prog 183 [.sl 0 ao l, .int .i64 m] (fun u=>u= .bool (decide (lV l (m+1)))):=by
 refine ab.intro ae ag Tryz.func183 rfl (by decide) ?_;(conv=>whnf)
 refine aQ.loopF ae ag (fun k:Nat=>k<=l.length/\∀j,j<k->0<=l.getD j 0/\l.getD j 0<m+1) (fun k=>[(9, .int .i64 (k:Int))]) (fun _=>[]) (fun k=>l.length-k) 0 ⟨by omega,fun j hj=>by omega⟩ ?_;conv=>whnf
 refine⟨sI,?_⟩
 rintro k ⟨hk,ha⟩
 conv=>whnf
 refine ah ?_ ?_<;>(intro h1;conv=>whnf)
 ·refine nI ?_
  rw[tN]
  by_cases h2:0<=l.getD k 0/\l.getD k 0<m+1
  ·conv=>whnf
   repeat' ((first|refine nI ?_|refine aI ?_|refine tI ?_|refine fI ?_|fail);conv=>whnf)
   refine⟨k+1,sI,⟨by omega,fun j hj=>?_⟩,by dsimp only;omega⟩
   by_cases e:j=k
   ·subst e;omega
   ·exact ha j (by omega)
  ·conv=>whnf
   repeat' ((first|refine nI ?_|refine aI ?_|refine fb trivial (by omega) ?_|refine fv trivial (by omega) ?_|refine dI ?_|refine dR ?_|refine dP ?_|refine al rfl ?_|refine pI _ rfl ?_|refine aw _ rfl ?_|refine tI ?_|refine fI ?_|refine ah (fun _=>?_) (fun _=>?_))<;>conv=>whnf)
   all_goals exact⟨au (fun h=>h2 (h k (by omega))),rfl⟩
 ·exact⟨aH (fun j hj=>ha j (by omega)),rfl⟩
theorem w9 {l:List Int} (h:shp l):nl l≠[]:=by
 intro e
 have h1:=Ad h
 have h2:(nl l).length=l.length:=by simp[nl]
 rw[e] at h2
 simp at h2
 omega
theorem nq (p:an) (s:aJ) (c:az) (hp:¬dX p) (hw:bA c=false) (hs:0<=s.n/\s.n<=1048576/\0<=s.f/\s.f<=1048576):ab Tryz.prog 95 [.agg (aR p), .agg (cq s), .agg (aW c)] (fun u=>u= .int .i64 (pB p s c)):=by
 have hle:=bL hp
 have hc:c.shape.length<=100/\c.states.length<=100/\c.sent.length<=100/\c.faulty.length<=100:=by
  unfold bA at hw
  simp at hw
  omega
 have bad:¬VC p s c->pB p s c=1:=fun h=>by rw[pB,if_neg h]
 refine ab.intro ae ag Tryz.func95 rfl (by decide) ?_;(conv=>whnf)
 refine al rfl ?_
 conv=>whnf
 refine al rfl ?_
 conv=>whnf
 refine al rfl ?_
 conv=>whnf
 have hwl:(yM p=1048576/\(p.fault=1\/p.fault=2))\/(yM p=0/\¬(p.fault=1\/p.fault=2)):=by
  unfold yM
  by_cases h:p.fault=1\/p.fault=2
  ·rw[if_pos h];exact .inl ⟨rfl,h⟩
  ·rw[if_neg h];exact .inr ⟨rfl,h⟩
 have ht4:p.topology=4\/p.topology≠4:=by omega
 rcases ht4 with ht|ht<;>rcases hwl with ⟨hwl,hfa⟩|⟨hwl,hfa⟩
 all_goals
  repeat' (first|(refine tI ?_;conv=>whnf)|(refine fI ?_;conv=>whnf)|(refine ah ?_ ?_<;>(intro _;conv=>whnf)))
 all_goals
  refine dI ?_
  conv=>whnf
  (refine oC (w8 p s hs) ?_;conv=>whnf)
  refine ah ?_ ?_<;>(intro h1;conv=>whnf)
  case refine_2=>
   repeat' ((first|refine nI ?_|refine aI ?_|refine tI ?_|refine fI ?_|fail);conv=>whnf)
   exact⟨ac (bad (fun h=>h1 h.len)).symm,rfl⟩
  repeat' ((first|refine nI ?_|refine aI ?_|refine tI ?_|refine fI ?_|fail);conv=>whnf)
  refine dD (uw c.states _ (by omega)) (fun _=>?_) (fun _=>?_)<;>(conv=>whnf)
  case refine_2=>
   rename_i h
   repeat' ((first|refine nI ?_|refine aI ?_|refine tI ?_|refine fI ?_|fail);conv=>whnf)
   exact⟨ac (bad (fun hh=>h (by have:=hh.sta;rwa [show(p.states.length:Int)-1+1=p.states.length by omega]))).symm,rfl⟩
  rename_i h2
  rw[show(p.states.length:Int)-1+1=p.states.length by omega] at h2
  repeat' ((first|refine nI ?_|refine aI ?_|refine tI ?_|refine fI ?_|fail);conv=>whnf)
  refine ah ?_ ?_<;>(intro h3;conv=>whnf)
  case refine_2=>
   repeat' ((first|refine nI ?_|refine aI ?_|refine tI ?_|refine fI ?_|fail);conv=>whnf)
   exact⟨ac (bad (fun h=>h3 h.cor)).symm,rfl⟩
  refine ah ?_ ?_<;>(intro h4;conv=>whnf)
  case refine_2=>
   repeat' ((first|refine nI ?_|refine aI ?_|refine tI ?_|refine fI ?_|fail);conv=>whnf)
   exact⟨ac (bad (fun h=>h4 (by have:=h.snl;omega))).symm,rfl⟩
  refine dD (uw c.sent _ (by omega)) (fun _=>?_) (fun _=>?_)<;>(conv=>whnf)
  case refine_2=>
   rename_i h
   repeat' ((first|refine nI ?_|refine aI ?_|refine tI ?_|refine fI ?_|fail);conv=>whnf)
   exact⟨ac (bad (fun hh=>h hh.sen)).symm,rfl⟩
  rename_i h5
  refine ah ?_ ?_<;>(intro h6;conv=>whnf)
  case refine_2=>
   repeat' ((first|refine nI ?_|refine aI ?_|refine tI ?_|refine fI ?_|fail);conv=>whnf)
   exact⟨ac (bad (fun h=>h6 (by have:=h.fal;omega))).symm,rfl⟩
  refine dD (uw c.faulty _ (by omega)) (fun _=>?_) (fun _=>?_)<;>(conv=>whnf)
  case refine_2=>
   rename_i h
   repeat' ((first|refine nI ?_|refine aI ?_|refine tI ?_|refine fI ?_|fail);conv=>whnf)
   exact⟨ac (bad (fun hh=>h (by have:=hh.fau;rwa [hwl] at this))).symm,rfl⟩
  rename_i h7
  refine ah ?_ ?_<;>(intro h8;conv=>whnf)
  case refine_2=>
   repeat' ((first|refine nI ?_|refine aI ?_|refine tI ?_|refine fI ?_|fail);conv=>whnf)
   exact⟨ac (bad (fun h=>h8 h.va0)).symm,rfl⟩
  refine ah ?_ ?_<;>(intro h9;conv=>whnf)
  case refine_2=>
   repeat' ((first|refine nI ?_|refine aI ?_|refine tI ?_|refine fI ?_|fail);conv=>whnf)
   exact⟨ac (bad (fun h=>h9 (by have:=h.va1;split<;>omega))).symm,rfl⟩
  have hva1:c.value<1\/c.value<p.values.length:=by split at h9<;>omega
  repeat' ((first|refine nI ?_|refine aI ?_|refine tI ?_|refine fI ?_|fail);conv=>whnf)
  refine ah ?_ ?_<;>(intro h10;conv=>whnf)
 all_goals try first
  |exact⟨ac (bad (fun h=>by have:=h.tre ht;omega)).symm,rfl⟩
  |exact⟨ac (bad (fun h=>by have:=h.non ht;omega)).symm,rfl⟩
  |exact⟨ac (by rw[pB,if_pos ⟨h1,h2,h3,by omega,h5,by omega,by rw[hwl];exact h7,h8,hva1,fun h=>absurd h ht,fun _=>by omega⟩]),rfl⟩
  |skip
 all_goals
  have hE:=Ae c.shape (by omega)
  by_cases hsh:shp c.shape
  ·rw[if_pos hsh] at hE
   (refine oP (hE) ?_;conv=>whnf)
   refine bX (w9 hsh) ?_
   conv=>whnf
   exact⟨ac (by rw[pB,if_pos ⟨h1,h2,h3,by omega,h5,by omega,by rw[hwl];exact h7,h8,hva1,fun _=>⟨h10,hsh⟩,fun h=>absurd ht h⟩]),rfl⟩
  ·rw[if_neg hsh] at hE
   (refine oP (hE) ?_;conv=>whnf)
   exact⟨ac (bad (fun h=>hsh (h.tre ht).2)).symm,rfl⟩
noncomputable def cF (p:an) (s:aJ) (c:az):Int:=if cr p s≠0 then cr p s else pB p s c
theorem ke (p:an) (s:aJ) (c:az) (hp:¬dX p) (hw:bA c=false):ab Tryz.prog 151 [.agg (aR p), .agg (cq s), .agg (aW c)] (fun u=>u= .int .i64 (cF p s c)):=by
 refine ab.intro ae ag Tryz.func151 rfl (by decide) ?_;(conv=>whnf)
 refine al rfl ?_
 conv=>whnf
 refine al rfl ?_
 conv=>whnf
 refine al rfl ?_
 conv=>whnf
 (refine oP (rj p s hp) ?_;conv=>whnf)
 refine ah ?_ ?_<;>(intro h1;conv=>whnf)
 ·exact⟨ac (by rw[cF,if_pos h1]),rfl⟩
 ·have:=iy (p:=p) (s:=s) (by omega)
  (refine oP (nq p s c hp hw (by omega)) ?_;conv=>whnf)
  exact⟨ac (by rw[cF,if_neg h1]),rfl⟩
def eJ (r:Sh):Sh:=.sl (.int .nil) r
def uz:Sh:=.int (.int (.int (.int .nil)))
def uA:Sh:=.int (.int (.int (.int (.int (.int .nil)))))
def oV:Sh:=.str (.int (.int (.int (.int (.int (eJ (.sl uA (eJ (eJ (.int (.int (eJ (.int (eJ (eJ (eJ (.int .nil)))))))))))))))))
def HQ:Sh:=.int (.int (.int .nil))
theorem JJ:kI Tryz.prog 9 59=some HQ:=by kernel_rfl
def iz (l:List (eV (.int .nil))):List Int:=l.map (fun x=>x.1)
def Es (l:List (eV (.str .nil))):List ByteArray:=l.map (fun x=>x.1)
def Ah:eV uz->kG
 |(a,b,c,d,_)=>⟨a,b,c,d⟩
def Ai:eV uA->ez
 |(a,b,c,d,e,f,_)=>⟨a,b,⟨c,d,e,f⟩⟩
def mw:eV oV->bo
 |(a,b,c,d,e,f,g,h,i,j,k,l,m,n,o,p,q,r,_)=>⟨a,b,c,d,e,f,iz g,List.map Ai h,iz i,iz j,k,l,iz m,n,iz o,iz p,iz q,r⟩
section
variable {S:ai}
theorem Ku (y:eV uz):ur S (bp uz y) (cI (Ah y)):=by
 obtain⟨a,b,c,d,⟨⟩⟩:=y
 exact⟨Cv.refl _ _,Cv.refl _ _,Cv.refl _ _,Cv.refl _ _,trivial⟩
theorem Kv (y:eV uA):ur S (bp uA y) (b8 (Ai y)):=by
 obtain⟨a,b,c,d,e,f,⟨⟩⟩:=y
 exact⟨Cv.refl _ _,Cv.refl _ _,Cv.refl _ _,Cv.refl _ _,Cv.refl _ _,Cv.refl _ _,trivial⟩
theorem HR (l:List (eV uz)):Cv S (.sl (gh uz) (bp uz) l) (.sl fQ cI (l.map Ah)):=
 Cv.sl (d:=gh uz) (enc:=bp uz) fQ cI Ah fun y _=>⟨Ku y,rfl⟩
theorem HS (l:List (eV uA)):Cv S (.sl (gh uA) (bp uA) l) (.sl aC b8 (l.map Ai)):=
 Cv.sl (d:=gh uA) (enc:=bp uA) aC b8 Ai fun y _=>⟨Kv y,rfl⟩
theorem Kw (y:eV oV):ur S (bp oV y) (eg (mw y)):=by
 obtain⟨a,b,c,d,e,f,g,h,i,j,k,l,m,n,o,p,q,r,⟨⟩⟩:=y
 exact⟨Cv.refl _ _,Cv.refl _ _,Cv.refl _ _,Cv.refl _ _,Cv.refl _ _,Cv.refl _ _,Cv.ints g,HS h,Cv.ints i,Cv.ints j,Cv.refl _ _,Cv.refl _ _,Cv.ints m,Cv.refl _ _,Cv.ints o,Cv.ints p,Cv.ints q,Cv.refl _ _,trivial⟩
theorem HT (l:List (eV oV)):Cv S (.sl (gh oV) (bp oV) l) (.sl ap eg (l.map mw)):=
 Cv.sl (d:=gh oV) (enc:=bp oV) ap eg mw fun y _=>⟨Kw y,rfl⟩
def Et:eV HQ->aJ
 |(a,b,c,_)=>⟨a,b,c⟩
theorem Eu (y:eV HQ):ur S (bp HQ y) (cq (Et y)):=by
 obtain⟨a,b,c,⟨⟩⟩:=y
 exact⟨Cv.refl _ _,Cv.refl _ _,Cv.refl _ _,trivial⟩
end
end Go.Proofs.YtekmminpfhacpaaGreatDoor
