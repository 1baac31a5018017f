import Derived.Test.YtokjgegkhlkopaaGreatDoorM3
set_option linter.unusedVariables false
set_option linter.unusedSimpArgs false
namespace Go.Proofs.YtokjgegkhlkopaaGreatDoor
set_option maxRecDepth 100000
set_option maxHeartbeats 4000000
theorem p9:∀(l:List Int) (n:Nat),iK n l=decide (bV n l=some [])
 |[],n=>by
  cases n with
  |zero=>rfl
  |succ n=>rw[gg];simp[iK];omega
 |x::xs,0=>by rw[eD];simp[iK]
 |x::xs,n+1=>by
  rw[cw,iK]
  by_cases h0:x=0
  ·subst h0
   rw[if_neg (by omega),if_neg (by omega),if_pos rfl]
   have:=p9 xs n
   rw[<-this];congr 1<;>omega
  ·by_cases h2:x=2
   ·subst h2
    rw[if_neg (by omega),if_neg (by omega),if_neg h0,if_pos rfl]
    have:=p9 xs (n+2)
    rw[<-this];congr 1<;>omega
   ·rw[if_neg (by omega),if_pos ⟨h0,h2⟩,if_neg h0,if_neg h2];simp
theorem xv (l:List Int) (hl:l.length<=1000):ae Tryz.prog 98 [.sl 0 aD l] (fun u=>u= .bool (decide (kO l))):=by
 have:=Eh l hl
 rw[show iK 1 l=decide (kO l) from p9 l 1] at this
 exact this
def Dh (p:ao):Int:=if p.fault=1\/p.fault=2 then 1048576 else 0
structure VC (p:ao) (s:az) (c:ap):Prop where
 len:(c.states.length:Int)=ee p s
 sta:kX c.states p.states.length
 cor:c.correct=s.n-s.f
 snl:c.sent.length=p.messages.length
 sen:kX c.sent 1048577
 fal:c.faulty.length=p.messages.length
 fau:kX c.faulty (Dh p+1)
 va0:0<=c.value
 va1:c.value<1\/c.value<p.values.length
 tre:p.topology=4->(c.shape.length:Int)=s.n/\kO c.shape
 non:p.topology≠4->c.shape.length=0
noncomputable instance decVC (p:ao) (s:az) (c:ap):Decidable (VC p s c):=Classical.propDecidable _
noncomputable def J8 (p:ao) (s:az) (c:ap):Int:=if VC p s c then 0 else 1
noncomputable def kP (p:ao) (s:az) (c:ap):Int:=if cT p s≠0 then cT p s else J8 p s c
theorem kC (a b c:Int):ae Tryz.prog 97 [.int .i64 a, .int .i64 b, .int .i64 c] (fun u=>u= .bool (decide (b<=a/\a<=c))):=by
 refine ae.intro ab ac Tryz.func97 rfl (by decide) ?_;(conv=>whnf)
 repeat' ((first|refine nI ?_|refine aI ?_|refine uI ?_|refine vI ?_|refine dI ?_|refine dR ?_|refine dP ?_|refine am rfl ?_|refine pI _ rfl ?_|refine ak _ rfl ?_|refine tI ?_|refine fI ?_|refine ah (fun _=>?_) (fun _=>?_))<;>conv=>whnf)
 all_goals first
  |exact⟨aN (by omega),rfl⟩
  |exact⟨aq (by omega),rfl⟩
theorem xw (l:List Int) (n:Int) (hl:l.length<=1000):ae Tryz.prog 95 [.sl 0 aD l, .int .i64 n] (fun u=>u= .bool (decide ((l.length:Int)=n/\kX l 1048577))):=by
 refine ae.intro ab ac Tryz.func95 rfl (by decide) ?_;(conv=>whnf)
 refine ah ?_ ?_<;>(intro h0;conv=>whnf)
 ·exact⟨aq (fun h=>h0 h.1),rfl⟩
 refine aE.loopF ab ac (fun k:Nat=>k<=l.length/\∀j,j<k->0<=l.getD j 0/\l.getD j 0<1048577) (fun k=>[(5, .int .i64 (k:Int))]) (fun _=>[]) (fun k=>l.length-k) 0 ⟨by omega,fun j hj=>by omega⟩ ?_;conv=>whnf
 refine⟨sI,?_⟩
 rintro k ⟨hk,ha⟩
 conv=>whnf
 refine ah ?_ ?_<;>(intro h1;conv=>whnf)
 ·refine nI ?_
  rw[tN]
  conv=>whnf
  refine dC (kC _ _ _) (fun _=>?_) (fun _=>?_)<;>(conv=>whnf)
  ·rename_i h2
   repeat' ((first|refine nI ?_|refine aI ?_|refine tI ?_|refine fI ?_|fail);conv=>whnf)
   refine⟨k+1,sI,⟨by omega,fun j hj=>?_⟩,by dsimp only;omega⟩
   by_cases e:j=k
   ·subst e;omega
   ·exact ha j (by omega)
  ·rename_i h2
   exact⟨aq (fun h=>h2 (by have:=h.2 k (by omega);omega)),rfl⟩
 ·exact⟨aN ⟨by omega,fun j hj=>ha j (by omega)⟩,rfl⟩
theorem Hv (p:ao) (l:List Int) (hl:l.length<=1000) (hp:p.states.length<=1000):ae Tryz.prog 94 [.agg (bf p), .sl 0 aD l] (fun u=>u= .bool (decide (kX l p.states.length))):=by
 refine ae.intro ab ac Tryz.func94 rfl (by decide) ?_;(conv=>whnf)
 refine am rfl ?_
 conv=>whnf
 refine aE.loopF ab ac (fun k:Nat=>k<=l.length/\∀j,j<k->0<=l.getD j 0/\l.getD j 0<p.states.length) (fun k=>[(5, .int .i64 (k:Int))]) (fun _=>[]) (fun k=>l.length-k) 0 ⟨by omega,fun j hj=>by omega⟩ ?_;conv=>whnf
 refine⟨sI,?_⟩
 rintro k ⟨hk,ha⟩
 conv=>whnf
 refine ah ?_ ?_<;>(intro h1;conv=>whnf)
 ·refine dI ?_
  conv=>whnf
  refine nI ?_
  rw[tN]
  conv=>whnf
  repeat' ((first|refine nI ?_|refine aI ?_|refine tI ?_|refine fI ?_|fail);conv=>whnf)
  refine dD (kC _ _ _) (fun _=>?_) (fun _=>?_)<;>(conv=>whnf)
  ·rename_i h2
   repeat' ((first|refine nI ?_|refine aI ?_|refine tI ?_|refine fI ?_|fail);conv=>whnf)
   refine⟨k+1,sI,⟨by omega,fun j hj=>?_⟩,by dsimp only;omega⟩
   by_cases e:j=k
   ·subst e;omega
   ·exact ha j (by omega)
  ·rename_i h2
   exact⟨aq (fun h=>h2 (by have:=h k (by omega);omega)),rfl⟩
 ·exact⟨aN (fun j hj=>ha j (by omega)),rfl⟩
theorem J9 (p:ao):ae Tryz.prog 96 [.agg (bf p)] (fun u=>u= .bool (decide (p.fault=1\/p.fault=2))):=by
 refine ae.intro ab ac Tryz.func96 rfl (by decide) ?_;(conv=>whnf)
 refine am rfl ?_
 conv=>whnf
 repeat' ((first|refine nI ?_|refine aI ?_|refine uI ?_|refine vI ?_|refine dI ?_|refine dR ?_|refine dP ?_|refine am rfl ?_|refine pI _ rfl ?_|refine ak _ rfl ?_|refine tI ?_|refine fI ?_|refine ah (fun _=>?_) (fun _=>?_))<;>conv=>whnf)
 all_goals first
  |exact⟨aN (by omega),rfl⟩
  |exact⟨aq (by omega),rfl⟩
theorem nX (p:ao) (s:az) (c:ap) (hp:¬b9 p) (hw:bc c=false) (hs:0<=s.n/\s.n<=1048576/\0<=s.f/\s.f<=1048576):ae Tryz.prog 58 [.agg (bf p), .agg (b7 s), .agg (bg c)] (fun u=>u= .bool (decide (VC p s c))):=by
 have hle:=aF hp
 have hc:c.shape.length<=100/\c.states.length<=100/\c.sent.length<=100/\c.faulty.length<=100:=by
  unfold bc at hw
  simp at hw
  omega
 have hwl:(Dh p=1048576/\(p.fault=1\/p.fault=2))\/(Dh p=0/\¬(p.fault=1\/p.fault=2)):=by
  unfold Dh
  by_cases h:p.fault=1\/p.fault=2
  ·rw[if_pos h];exact .inl ⟨rfl,h⟩
  ·rw[if_neg h];exact .inr ⟨rfl,h⟩
 refine ae.intro ab ac Tryz.func58 rfl (by decide) ?_;(conv=>whnf)
 refine am rfl ?_
 conv=>whnf
 refine am rfl ?_
 conv=>whnf
 refine am rfl ?_
 conv=>whnf
 refine dI ?_
 conv=>whnf
 (refine oC (rE p s hs) ?_;conv=>whnf)
 refine ah ?_ ?_<;>(intro h1;conv=>whnf)
 ·exact⟨aq (fun h=>h1 h.len),rfl⟩
 refine dD (Hv p c.states (by omega) (by omega)) (fun _=>?_) (fun _=>?_)<;>(conv=>whnf)
 case refine_2=>rename_i h;exact⟨aq (fun hh=>h hh.sta),rfl⟩
 rename_i h2
 repeat' ((first|refine nI ?_|refine aI ?_|refine tI ?_|refine fI ?_|fail);conv=>whnf)
 refine ah ?_ ?_<;>(intro h3;conv=>whnf)
 ·exact⟨aq (fun h=>h3 h.cor),rfl⟩
 refine dD (xw c.sent _ (by omega)) (fun _=>?_) (fun _=>?_)<;>(conv=>whnf)
 case refine_2=>rename_i h;exact⟨aq (fun hh=>h ⟨by have:=hh.snl;omega,hh.sen⟩),rfl⟩
 rename_i h4
 refine dD (xw c.faulty _ (by omega)) (fun _=>?_) (fun _=>?_)<;>(conv=>whnf)
 case refine_2=>
  rename_i h
  refine⟨aq (fun hh=>h ⟨by have:=hh.fal;omega,fun j hj=>?_⟩),rfl⟩
  have:=hh.fau j hj
  omega
 rename_i h5
 refine aE.loopF ab ac (fun k:Nat=>k<=c.faulty.length/\∀j,j<k->c.faulty.getD j 0≠0->(p.fault=1\/p.fault=2)) (fun k=>[(7, .int .i64 (k:Int))]) (fun _=>[]) (fun k=>c.faulty.length-k) 0 ⟨by omega,fun j hj=>by omega⟩ ?_;conv=>whnf
 refine⟨sI,?_⟩
 rintro k ⟨hk,ha⟩
 conv=>whnf
 refine ah ?_ ?_<;>(intro h6;conv=>whnf)
 ·refine nI ?_
  rw[tN]
  conv=>whnf
  refine ah ?_ ?_<;>(intro h7;conv=>whnf)
  ·refine dC (J9 p) (fun _=>?_) (fun _=>?_)<;>(conv=>whnf)
   ·rename_i h8
    repeat' ((first|refine nI ?_|refine aI ?_|refine tI ?_|refine fI ?_|fail);conv=>whnf)
    exact⟨k+1,sI,⟨by omega,fun j hj _=>h8⟩,by dsimp only;omega⟩
   ·rename_i h8
    refine⟨aq (fun hh=>?_),rfl⟩
    have h9:=hh.fau k (by omega)
    omega
  ·repeat' ((first|refine nI ?_|refine aI ?_|refine tI ?_|refine fI ?_|fail);conv=>whnf)
   refine⟨k+1,sI,⟨by omega,fun j hj h8=>?_⟩,by dsimp only;omega⟩
   by_cases e:j=k
   ·subst e;exact absurd h8 h7
   ·exact ha j (by omega) h8
 have hfau:kX c.faulty (Dh p+1):=fun j hj=>by
  have a1:=h5.2 j hj
  have a2:=ha j (by omega)
  omega
 repeat' ((first|refine nI ?_|refine aI ?_|refine tI ?_|refine fI ?_|fail);conv=>whnf)
 refine dC (kC _ _ _) (fun _=>?_) (fun _=>?_)<;>(conv=>whnf)
 case refine_2=>
  rename_i h
  refine⟨aq (fun hh=>h ⟨hh.va0,?_⟩),rfl⟩
  have:=hh.va1
  split<;>omega
 rename_i h9
 have hva1:c.value<1\/c.value<p.values.length:=by
  have:=h9.2
  split at this<;>omega
 refine ah ?_ ?_<;>(intro ht;conv=>whnf)
 ·refine ah ?_ ?_<;>(intro h10;conv=>whnf)
  ·refine dC (xv c.shape (by omega)) (fun _=>?_) (fun _=>?_)<;>(conv=>whnf)
   ·rename_i hsh
    exact⟨aN ⟨by omega,h2,by omega,by omega,h4.2,by omega,hfau,h9.1,hva1,fun _=>⟨h10,hsh⟩,fun h=>absurd ht h⟩,rfl⟩
   ·rename_i hsh
    exact⟨aq (fun h=>hsh (h.tre ht).2),rfl⟩
  ·exact⟨aq (fun h=>h10 (h.tre ht).1),rfl⟩
 ·refine ah ?_ ?_<;>(intro h10;conv=>whnf)
  ·exact⟨aN ⟨by omega,h2,by omega,by omega,h4.2,by omega,hfau,h9.1,hva1,fun h=>absurd h ht,fun _=>by omega⟩,rfl⟩
  ·exact⟨aq (fun h=>h10 (by have:=h.non ht;omega)),rfl⟩
theorem kD (p:ao) (s:az) (c:ap) (hp:¬b9 p) (hw:bc c=false):ae Tryz.prog 99 [.agg (bf p), .agg (b7 s), .agg (bg c)] (fun u=>u= .int .i64 (kP p s c)):=by
 refine ae.intro ab ac Tryz.func99 rfl (by decide) ?_;(conv=>whnf)
 refine am rfl ?_
 conv=>whnf
 refine am rfl ?_
 conv=>whnf
 refine am rfl ?_
 conv=>whnf
 (refine oP (EN p s hp) ?_;conv=>whnf)
 refine ah ?_ ?_<;>(intro h1;conv=>whnf)
 ·exact⟨aj (by rw[kP,if_pos h1]),rfl⟩
 ·have:=dM (p:=p) (s:=s) (by omega)
  refine dC (nX p s c hp hw (by omega)) (fun _=>?_) (fun _=>?_)<;>(conv=>whnf)
  ·rename_i h;exact⟨aj (by rw[kP,if_neg h1,J8,if_pos h]),rfl⟩
  ·rename_i h;exact⟨aj (by rw[kP,if_neg h1,J8,if_neg h]),rfl⟩
theorem iv (l:List Int) (hl:l.length<=1000000):ae Tryz.prog 51 [.sl 0 aD l] (fun u=>u= .sl 0 aD l):=by
 refine ae.intro ab ac Tryz.func51 rfl (by decide) ?_;(conv=>whnf)
 refine cA 0 aD [] rfl ?_
 conv=>whnf
 refine cB _ rfl (by simp only[List.length_nil];omega) ?_
 conv=>whnf
 exact⟨rfl,rfl⟩
theorem Mo (c:ap) (hw:bc c=false):ae Tryz.prog 59 [.agg (bg c)] (fun u=>u= .agg (bg c)):=by
 have hc:c.shape.length<=100/\c.states.length<=100/\c.sent.length<=100/\c.faulty.length<=100:=by
  unfold bc at hw
  simp at hw
  omega
 refine ae.intro ab ac Tryz.func59 rfl (by decide) ?_;(conv=>whnf)
 refine am rfl ?_
 conv=>whnf
 refine dP ?_
 conv=>whnf
 (refine oC (iv c.shape (by omega)) ?_;conv=>whnf)
 (refine oC (iv c.states (by omega)) ?_;conv=>whnf)
 (refine oC (iv c.sent (by omega)) ?_;conv=>whnf)
 (refine oC (iv c.faulty (by omega)) ?_;conv=>whnf)
 exact⟨rfl,rfl⟩
def f7 (r:Sh):Sh:=.sl (.int .nil) r
def s7:Sh:=.int (.int (.int (.int .nil)))
def vv:Sh:=.int (.int (.int (.int (.int (.int .nil)))))
def s8:Sh:=.str (.int (.int (.int (.int (.int (f7 (.sl vv (f7 (f7 (.int (.int (f7 (.int (f7 (f7 (f7 (.int .nil)))))))))))))))))
def Hw:Sh:=.str (.int (.sl (.str .nil) (.sl (.str .nil) (.sl (.str .nil) (.int (.sl s7 (f7 (f7 (.sl s8 .nil)))))))))
theorem Mp:sY Tryz.prog 9 27=some Hw:=by kernel_rfl
def nums (l:List (jC (.int .nil))):List Int:=l.map (fun x=>x.1)
def Ci (l:List (jC (.str .nil))):List ByteArray:=l.map (fun x=>x.1)
def xx:jC s7->yF
 |(a,b,c,d,_)=>⟨a,b,c,d⟩
def AJ:jC vv->nN
 |(a,b,c,d,e,f,_)=>⟨a,b,⟨c,d,e,f⟩⟩
def xy:jC s8->dh
 |(a,b,c,d,e,f,g,h,i,j,k,l,m,n,o,p,q,r,_)=>⟨a,b,c,d,e,f,nums g,List.map AJ h,nums i,nums j,k,l,nums m,n,nums o,nums p,nums q,r⟩
section
variable {S:ag}
theorem J' (y:jC s7):yE S (cy s7 y) (eE (xx y)):=by
 obtain⟨a,b,c,d,⟨⟩⟩:=y
 exact⟨Cv.refl _ _,Cv.refl _ _,Cv.refl _ _,Cv.refl _ _,trivial⟩
theorem Ka (y:jC vv):yE S (cy vv y) (dY (AJ y)):=by
 obtain⟨a,b,c,d,e,f,⟨⟩⟩:=y
 exact⟨Cv.refl _ _,Cv.refl _ _,Cv.refl _ _,Cv.refl _ _,Cv.refl _ _,Cv.refl _ _,trivial⟩
theorem AK (l:List (jC s7)):Cv S (.sl (jQ s7) (cy s7) l) (.sl i0 eE (l.map xx)):=
 Cv.sl (d:=jQ s7) (enc:=cy s7) i0 eE xx fun y _=>⟨J' y,rfl⟩
theorem Hx (l:List (jC vv)):Cv S (.sl (jQ vv) (cy vv) l) (.sl dv dY (l.map AJ)):=
 Cv.sl (d:=jQ vv) (enc:=cy vv) dv dY AJ fun y _=>⟨Ka y,rfl⟩
theorem Kb (y:jC s8):yE S (cy s8 y) (fD (xy y)):=by
 obtain⟨a,b,c,d,e,f,g,h,i,j,k,l,m,n,o,p,q,r,⟨⟩⟩:=y
 exact⟨Cv.refl _ _,Cv.refl _ _,Cv.refl _ _,Cv.refl _ _,Cv.refl _ _,Cv.refl _ _,Cv.ints g,Hx h,Cv.ints i,Cv.ints j,Cv.refl _ _,Cv.refl _ _,Cv.ints m,Cv.refl _ _,Cv.ints o,Cv.ints p,Cv.ints q,Cv.refl _ _,trivial⟩
theorem AM (l:List (jC s8)):Cv S (.sl (jQ s8) (cy s8) l) (.sl au fD (l.map xy)):=
 Cv.sl (d:=jQ s8) (enc:=cy s8) au fD xy fun y _=>⟨Kb y,rfl⟩
def I4:jC Hw->ao
 |(a,b,c,d,e,f,g,h,i,j,_)=>⟨a,b,Ci c,Ci d,Ci e,f,List.map xx g,nums h,nums i,List.map xy j⟩
theorem Kd (y:jC Hw):yE S (cy Hw y) (bf (I4 y)):=by
 obtain⟨a,b,c,d,e,f,g,h,i,j,⟨⟩⟩:=y
 exact⟨Cv.refl _ _,Cv.refl _ _,Cv.strs c,Cv.strs d,Cv.strs e,Cv.refl _ _,AK g,Cv.ints h,Cv.ints i,AM j,trivial⟩
end
end Go.Proofs.YtokjgegkhlkopaaGreatDoor
