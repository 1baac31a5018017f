import Derived.Test.YtblcpnmnibcbbaaGreatDoorM3
set_option linter.unusedVariables false
set_option linter.unusedSimpArgs false
namespace Go.Proofs.YtblcpnmnibcbbaaGreatDoor
set_option maxRecDepth 100000
set_option maxHeartbeats 4000000
theorem oB:∀(l:List Int) (n:Nat),gT n l=decide (bN n l=some [])
 |[],n=>by
  cases n with
  |zero=>rfl
  |succ n=>rw[fH];simp[gT];omega
 |x::xs,0=>by rw[dW];simp[gT]
 |x::xs,n+1=>by
  rw[cn,gT]
  by_cases h0:x=0
  ·subst h0
   rw[if_neg (by omega),if_neg (by omega),if_pos rfl]
   have:=oB xs n
   rw[<-this];congr 1<;>omega
  ·by_cases h2:x=2
   ·subst h2
    rw[if_neg (by omega),if_neg (by omega),if_neg h0,if_pos rfl]
    have:=oB xs (n+2)
    rw[<-this];congr 1<;>omega
   ·rw[if_neg (by omega),if_pos ⟨h0,h2⟩,if_neg h0,if_neg h2];simp
theorem uU (l:List Int) (hl:l.length<=1000):aa Tryz.prog 113 [.sl 0 aD l] (fun u=>u= .bool (decide (ji l))):=by
 have:=A7 l hl
 rw[show gT 1 l=decide (ji l) from oB l 1] at this
 exact this
def wI (p:aq):Int:=if p.fault=1\/p.fault=2 then 1048576 else 0
structure VC (p:aq) (s:aB) (c:ap):Prop where
 len:(c.states.length:Int)=dL p s
 sta:jT c.states p.states.length
 cor:c.correct=s.n-s.f
 snl:c.sent.length=p.messages.length
 sen:jT c.sent 1048577
 fal:c.faulty.length=p.messages.length
 fau:jT c.faulty (wI p+1)
 va0:0<=c.value
 va1:c.value<1\/c.value<p.values.length
 tre:p.topology=4->(c.shape.length:Int)=s.n/\ji c.shape
 non:p.topology≠4->c.shape.length=0
noncomputable instance decVC (p:aq) (s:aB) (c:ap):Decidable (VC p s c):=Classical.propDecidable _
noncomputable def vX (p:aq) (s:aB) (c:ap):Int:=if VC p s c then 0 else 1
theorem sZ (l:List Int) (m:Int) (hl:l.length<=1000):aa Tryz.prog 124 [.sl 0 aD l, .int .i64 m] (fun u=>u= .bool (decide (jT l (m+1)))):=by
 refine aa.intro ab ac Tryz.func124 rfl (by decide) ?_;(conv=>whnf)
 refine aR.loopF ab ac (fun k:Nat=>k<=l.length/\∀j,j<k->0<=l.getD j 0/\l.getD j 0<m+1) (fun k=>[(9, .int .i64 (k:Int))]) (fun _=>[]) (fun k=>l.length-k) 0 ⟨by omega,fun j hj=>by omega⟩ ?_;conv=>whnf
 refine⟨sI,?_⟩
 rintro k ⟨hk,ha⟩
 conv=>whnf
 refine ag ?_ ?_<;>(intro h1;conv=>whnf)
 ·refine nI ?_
  rw[tN]
  by_cases h2:0<=l.getD k 0/\l.getD k 0<m+1
  ·conv=>whnf
   repeat' ((first|refine nI ?_|refine aI ?_|refine tI ?_|refine fI ?_|fail);conv=>whnf)
   refine⟨k+1,sI,⟨by omega,fun j hj=>?_⟩,by dsimp only;omega⟩
   by_cases e:j=k
   ·subst e;omega
   ·exact ha j (by omega)
  ·conv=>whnf
   repeat' ((first|refine nI ?_|refine aI ?_|refine uI ?_|refine vI ?_|refine dI ?_|refine dR ?_|refine dP ?_|refine am rfl ?_|refine pI _ rfl ?_|refine ak _ rfl ?_|refine tI ?_|refine fI ?_|refine ag (fun _=>?_) (fun _=>?_))<;>conv=>whnf)
   all_goals exact⟨an (fun h=>h2 (h k (by omega))),rfl⟩
 ·exact⟨aH (fun j hj=>ha j (by omega)),rfl⟩
theorem BF {l:List Int} (h:ji l):mo l≠[]:=by
 intro e
 have h1:=xB h
 have h2:(mo l).length=l.length:=by simp[mo]
 rw[e] at h2
 simp at h2
 omega
theorem s2 (p:aq) (s:aB) (c:ap) (hp:¬bV p) (hw:aX c=false) (hs:0<=s.n/\s.n<=1048576/\0<=s.f/\s.f<=1048576):aa Tryz.prog 76 [.agg (bc p), .agg (bW s), .agg (aY c)] (fun u=>u= .int .i64 (vX p s c)):=by
 have hle:=aC hp
 have hc:c.shape.length<=100/\c.states.length<=100/\c.sent.length<=100/\c.faulty.length<=100:=by
  unfold aX at hw
  simp at hw
  omega
 have bad:¬VC p s c->vX p s c=1:=fun h=>by rw[vX,if_neg h]
 refine aa.intro ab ac Tryz.func76 rfl (by decide) ?_;(conv=>whnf)
 refine am rfl ?_
 conv=>whnf
 refine am rfl ?_
 conv=>whnf
 refine am rfl ?_
 conv=>whnf
 have hwl:(wI p=1048576/\(p.fault=1\/p.fault=2))\/(wI p=0/\¬(p.fault=1\/p.fault=2)):=by
  unfold wI
  by_cases h:p.fault=1\/p.fault=2
  ·rw[if_pos h];exact .inl ⟨rfl,h⟩
  ·rw[if_neg h];exact .inr ⟨rfl,h⟩
 have ht4:p.topology=4\/p.topology≠4:=by omega
 rcases ht4 with ht|ht<;>rcases hwl with ⟨hwl,hfa⟩|⟨hwl,hfa⟩
 all_goals
  repeat' (first|(refine tI ?_;conv=>whnf)|(refine fI ?_;conv=>whnf)|(refine ag ?_ ?_<;>(intro _;conv=>whnf)))
 all_goals
  refine dI ?_
  conv=>whnf
  (refine oC (uT p s hs) ?_;conv=>whnf)
  refine ag ?_ ?_<;>(intro h1;conv=>whnf)
  case refine_2=>
   repeat' ((first|refine nI ?_|refine aI ?_|refine tI ?_|refine fI ?_|fail);conv=>whnf)
   exact⟨aj (bad (fun h=>h1 h.len)).symm,rfl⟩
  repeat' ((first|refine nI ?_|refine aI ?_|refine tI ?_|refine fI ?_|fail);conv=>whnf)
  refine dD (sZ c.states _ (by omega)) (fun _=>?_) (fun _=>?_)<;>(conv=>whnf)
  case refine_2=>
   rename_i h
   repeat' ((first|refine nI ?_|refine aI ?_|refine tI ?_|refine fI ?_|fail);conv=>whnf)
   exact⟨aj (bad (fun hh=>h (by have:=hh.sta;rwa [show(p.states.length:Int)-1+1=p.states.length by omega]))).symm,rfl⟩
  rename_i h2
  rw[show(p.states.length:Int)-1+1=p.states.length by omega] at h2
  repeat' ((first|refine nI ?_|refine aI ?_|refine tI ?_|refine fI ?_|fail);conv=>whnf)
  refine ag ?_ ?_<;>(intro h3;conv=>whnf)
  case refine_2=>
   repeat' ((first|refine nI ?_|refine aI ?_|refine tI ?_|refine fI ?_|fail);conv=>whnf)
   exact⟨aj (bad (fun h=>h3 h.cor)).symm,rfl⟩
  refine ag ?_ ?_<;>(intro h4;conv=>whnf)
  case refine_2=>
   repeat' ((first|refine nI ?_|refine aI ?_|refine tI ?_|refine fI ?_|fail);conv=>whnf)
   exact⟨aj (bad (fun h=>h4 (by have:=h.snl;omega))).symm,rfl⟩
  refine dD (sZ c.sent _ (by omega)) (fun _=>?_) (fun _=>?_)<;>(conv=>whnf)
  case refine_2=>
   rename_i h
   repeat' ((first|refine nI ?_|refine aI ?_|refine tI ?_|refine fI ?_|fail);conv=>whnf)
   exact⟨aj (bad (fun hh=>h hh.sen)).symm,rfl⟩
  rename_i h5
  refine ag ?_ ?_<;>(intro h6;conv=>whnf)
  case refine_2=>
   repeat' ((first|refine nI ?_|refine aI ?_|refine tI ?_|refine fI ?_|fail);conv=>whnf)
   exact⟨aj (bad (fun h=>h6 (by have:=h.fal;omega))).symm,rfl⟩
  refine dD (sZ c.faulty _ (by omega)) (fun _=>?_) (fun _=>?_)<;>(conv=>whnf)
  case refine_2=>
   rename_i h
   repeat' ((first|refine nI ?_|refine aI ?_|refine tI ?_|refine fI ?_|fail);conv=>whnf)
   exact⟨aj (bad (fun hh=>h (by have:=hh.fau;rwa [hwl] at this))).symm,rfl⟩
  rename_i h7
  refine ag ?_ ?_<;>(intro h8;conv=>whnf)
  case refine_2=>
   repeat' ((first|refine nI ?_|refine aI ?_|refine tI ?_|refine fI ?_|fail);conv=>whnf)
   exact⟨aj (bad (fun h=>h8 h.va0)).symm,rfl⟩
  refine ag ?_ ?_<;>(intro h9;conv=>whnf)
  case refine_2=>
   repeat' ((first|refine nI ?_|refine aI ?_|refine tI ?_|refine fI ?_|fail);conv=>whnf)
   exact⟨aj (bad (fun h=>h9 (by have:=h.va1;split<;>omega))).symm,rfl⟩
  have hva1:c.value<1\/c.value<p.values.length:=by split at h9<;>omega
  repeat' ((first|refine nI ?_|refine aI ?_|refine tI ?_|refine fI ?_|fail);conv=>whnf)
  refine ag ?_ ?_<;>(intro h10;conv=>whnf)
 all_goals try first
  |exact⟨aj (bad (fun h=>by have:=h.tre ht;omega)).symm,rfl⟩
  |exact⟨aj (bad (fun h=>by have:=h.non ht;omega)).symm,rfl⟩
  |exact⟨aj (by rw[vX,if_pos ⟨h1,h2,h3,by omega,h5,by omega,by rw[hwl];exact h7,h8,hva1,fun h=>absurd h ht,fun _=>by omega⟩]),rfl⟩
  |skip
 all_goals
  have hE:=Bf c.shape (by omega)
  by_cases hsh:ji c.shape
  ·rw[if_pos hsh] at hE
   (refine oP (hE) ?_;conv=>whnf)
   refine dA (BF hsh) ?_
   conv=>whnf
   exact⟨aj (by rw[vX,if_pos ⟨h1,h2,h3,by omega,h5,by omega,by rw[hwl];exact h7,h8,hva1,fun _=>⟨h10,hsh⟩,fun h=>absurd ht h⟩]),rfl⟩
  ·rw[if_neg hsh] at hE
   (refine oP (hE) ?_;conv=>whnf)
   exact⟨aj (bad (fun h=>hsh (h.tre ht).2)).symm,rfl⟩
noncomputable def jP (p:aq) (s:aB) (c:ap):Int:=if cE p s≠0 then cE p s else vX p s c
theorem jC (a b c:Int):aa Tryz.prog 112 [.int .i64 a, .int .i64 b, .int .i64 c] (fun u=>u= .bool (decide (b<=a/\a<=c))):=by
 refine aa.intro ab ac Tryz.func112 rfl (by decide) ?_;(conv=>whnf)
 repeat' ((first|refine nI ?_|refine aI ?_|refine uI ?_|refine vI ?_|refine dI ?_|refine dR ?_|refine dP ?_|refine am rfl ?_|refine pI _ rfl ?_|refine ak _ rfl ?_|refine tI ?_|refine fI ?_|refine ag (fun _=>?_) (fun _=>?_))<;>conv=>whnf)
 all_goals first
  |exact⟨aH (by omega),rfl⟩
  |exact⟨an (by omega),rfl⟩
theorem uW (l:List Int) (n:Int) (hl:l.length<=1000):aa Tryz.prog 110 [.sl 0 aD l, .int .i64 n] (fun u=>u= .bool (decide ((l.length:Int)=n/\jT l 1048577))):=by
 refine aa.intro ab ac Tryz.func110 rfl (by decide) ?_;(conv=>whnf)
 refine ag ?_ ?_<;>(intro h0;conv=>whnf)
 ·exact⟨an (fun h=>h0 h.1),rfl⟩
 refine aR.loopF ab ac (fun k:Nat=>k<=l.length/\∀j,j<k->0<=l.getD j 0/\l.getD j 0<1048577) (fun k=>[(5, .int .i64 (k:Int))]) (fun _=>[]) (fun k=>l.length-k) 0 ⟨by omega,fun j hj=>by omega⟩ ?_;conv=>whnf
 refine⟨sI,?_⟩
 rintro k ⟨hk,ha⟩
 conv=>whnf
 refine ag ?_ ?_<;>(intro h1;conv=>whnf)
 ·refine nI ?_
  rw[tN]
  conv=>whnf
  refine dC (jC _ _ _) (fun _=>?_) (fun _=>?_)<;>(conv=>whnf)
  ·rename_i h2
   repeat' ((first|refine nI ?_|refine aI ?_|refine tI ?_|refine fI ?_|fail);conv=>whnf)
   refine⟨k+1,sI,⟨by omega,fun j hj=>?_⟩,by dsimp only;omega⟩
   by_cases e:j=k
   ·subst e;omega
   ·exact ha j (by omega)
  ·rename_i h2
   exact⟨an (fun h=>h2 (by have:=h.2 k (by omega);omega)),rfl⟩
 ·exact⟨aH ⟨by omega,fun j hj=>ha j (by omega)⟩,rfl⟩
theorem Ed (p:aq) (l:List Int) (hl:l.length<=1000) (hp:p.states.length<=1000):aa Tryz.prog 109 [.agg (bc p), .sl 0 aD l] (fun u=>u= .bool (decide (jT l p.states.length))):=by
 refine aa.intro ab ac Tryz.func109 rfl (by decide) ?_;(conv=>whnf)
 refine am rfl ?_
 conv=>whnf
 refine aR.loopF ab ac (fun k:Nat=>k<=l.length/\∀j,j<k->0<=l.getD j 0/\l.getD j 0<p.states.length) (fun k=>[(5, .int .i64 (k:Int))]) (fun _=>[]) (fun k=>l.length-k) 0 ⟨by omega,fun j hj=>by omega⟩ ?_;conv=>whnf
 refine⟨sI,?_⟩
 rintro k ⟨hk,ha⟩
 conv=>whnf
 refine ag ?_ ?_<;>(intro h1;conv=>whnf)
 ·refine dI ?_
  conv=>whnf
  refine nI ?_
  rw[tN]
  conv=>whnf
  repeat' ((first|refine nI ?_|refine aI ?_|refine tI ?_|refine fI ?_|fail);conv=>whnf)
  refine dD (jC _ _ _) (fun _=>?_) (fun _=>?_)<;>(conv=>whnf)
  ·rename_i h2
   repeat' ((first|refine nI ?_|refine aI ?_|refine tI ?_|refine fI ?_|fail);conv=>whnf)
   refine⟨k+1,sI,⟨by omega,fun j hj=>?_⟩,by dsimp only;omega⟩
   by_cases e:j=k
   ·subst e;omega
   ·exact ha j (by omega)
  ·rename_i h2
   exact⟨an (fun h=>h2 (by have:=h k (by omega);omega)),rfl⟩
 ·exact⟨aH (fun j hj=>ha j (by omega)),rfl⟩
theorem F3 (p:aq):aa Tryz.prog 111 [.agg (bc p)] (fun u=>u= .bool (decide (p.fault=1\/p.fault=2))):=by
 refine aa.intro ab ac Tryz.func111 rfl (by decide) ?_;(conv=>whnf)
 refine am rfl ?_
 conv=>whnf
 repeat' ((first|refine nI ?_|refine aI ?_|refine uI ?_|refine vI ?_|refine dI ?_|refine dR ?_|refine dP ?_|refine am rfl ?_|refine pI _ rfl ?_|refine ak _ rfl ?_|refine tI ?_|refine fI ?_|refine ag (fun _=>?_) (fun _=>?_))<;>conv=>whnf)
 all_goals first
  |exact⟨aH (by omega),rfl⟩
  |exact⟨an (by omega),rfl⟩
theorem mB (p:aq) (s:aB) (c:ap) (hp:¬bV p) (hw:aX c=false) (hs:0<=s.n/\s.n<=1048576/\0<=s.f/\s.f<=1048576):aa Tryz.prog 66 [.agg (bc p), .agg (bW s), .agg (aY c)] (fun u=>u= .bool (decide (VC p s c))):=by
 have hle:=aC hp
 have hc:c.shape.length<=100/\c.states.length<=100/\c.sent.length<=100/\c.faulty.length<=100:=by
  unfold aX at hw
  simp at hw
  omega
 have hwl:(wI p=1048576/\(p.fault=1\/p.fault=2))\/(wI p=0/\¬(p.fault=1\/p.fault=2)):=by
  unfold wI
  by_cases h:p.fault=1\/p.fault=2
  ·rw[if_pos h];exact .inl ⟨rfl,h⟩
  ·rw[if_neg h];exact .inr ⟨rfl,h⟩
 refine aa.intro ab ac Tryz.func66 rfl (by decide) ?_;(conv=>whnf)
 refine am rfl ?_
 conv=>whnf
 refine am rfl ?_
 conv=>whnf
 refine am rfl ?_
 conv=>whnf
 refine dI ?_
 conv=>whnf
 (refine oC (pU p s hs) ?_;conv=>whnf)
 refine ag ?_ ?_<;>(intro h1;conv=>whnf)
 ·exact⟨an (fun h=>h1 h.len),rfl⟩
 refine dD (Ed p c.states (by omega) (by omega)) (fun _=>?_) (fun _=>?_)<;>(conv=>whnf)
 case refine_2=>rename_i h;exact⟨an (fun hh=>h hh.sta),rfl⟩
 rename_i h2
 repeat' ((first|refine nI ?_|refine aI ?_|refine tI ?_|refine fI ?_|fail);conv=>whnf)
 refine ag ?_ ?_<;>(intro h3;conv=>whnf)
 ·exact⟨an (fun h=>h3 h.cor),rfl⟩
 refine dD (uW c.sent _ (by omega)) (fun _=>?_) (fun _=>?_)<;>(conv=>whnf)
 case refine_2=>rename_i h;exact⟨an (fun hh=>h ⟨by have:=hh.snl;omega,hh.sen⟩),rfl⟩
 rename_i h4
 refine dD (uW c.faulty _ (by omega)) (fun _=>?_) (fun _=>?_)<;>(conv=>whnf)
 case refine_2=>
  rename_i h
  refine⟨an (fun hh=>h ⟨by have:=hh.fal;omega,fun j hj=>?_⟩),rfl⟩
  have:=hh.fau j hj
  omega
 rename_i h5
 refine aR.loopF ab ac (fun k:Nat=>k<=c.faulty.length/\∀j,j<k->c.faulty.getD j 0≠0->(p.fault=1\/p.fault=2)) (fun k=>[(7, .int .i64 (k:Int))]) (fun _=>[]) (fun k=>c.faulty.length-k) 0 ⟨by omega,fun j hj=>by omega⟩ ?_;conv=>whnf
 refine⟨sI,?_⟩
 rintro k ⟨hk,ha⟩
 conv=>whnf
 refine ag ?_ ?_<;>(intro h6;conv=>whnf)
 ·refine nI ?_
  rw[tN]
  conv=>whnf
  refine ag ?_ ?_<;>(intro h7;conv=>whnf)
  ·refine dC (F3 p) (fun _=>?_) (fun _=>?_)<;>(conv=>whnf)
   ·rename_i h8
    repeat' ((first|refine nI ?_|refine aI ?_|refine tI ?_|refine fI ?_|fail);conv=>whnf)
    exact⟨k+1,sI,⟨by omega,fun j hj _=>h8⟩,by dsimp only;omega⟩
   ·rename_i h8
    refine⟨an (fun hh=>?_),rfl⟩
    have h9:=hh.fau k (by omega)
    omega
  ·repeat' ((first|refine nI ?_|refine aI ?_|refine tI ?_|refine fI ?_|fail);conv=>whnf)
   refine⟨k+1,sI,⟨by omega,fun j hj h8=>?_⟩,by dsimp only;omega⟩
   by_cases e:j=k
   ·subst e;exact absurd h8 h7
   ·exact ha j (by omega) h8
 have hfau:jT c.faulty (wI p+1):=fun j hj=>by
  have a1:=h5.2 j hj
  have a2:=ha j (by omega)
  omega
 repeat' ((first|refine nI ?_|refine aI ?_|refine tI ?_|refine fI ?_|fail);conv=>whnf)
 refine dC (jC _ _ _) (fun _=>?_) (fun _=>?_)<;>(conv=>whnf)
 case refine_2=>
  rename_i h
  refine⟨an (fun hh=>h ⟨hh.va0,?_⟩),rfl⟩
  have:=hh.va1
  split<;>omega
 rename_i h9
 have hva1:c.value<1\/c.value<p.values.length:=by
  have:=h9.2
  split at this<;>omega
 refine ag ?_ ?_<;>(intro ht;conv=>whnf)
 ·refine ag ?_ ?_<;>(intro h10;conv=>whnf)
  ·refine dC (uU c.shape (by omega)) (fun _=>?_) (fun _=>?_)<;>(conv=>whnf)
   ·rename_i hsh
    exact⟨aH ⟨by omega,h2,by omega,by omega,h4.2,by omega,hfau,h9.1,hva1,fun _=>⟨h10,hsh⟩,fun h=>absurd ht h⟩,rfl⟩
   ·rename_i hsh
    exact⟨an (fun h=>hsh (h.tre ht).2),rfl⟩
  ·exact⟨an (fun h=>h10 (h.tre ht).1),rfl⟩
 ·refine ag ?_ ?_<;>(intro h10;conv=>whnf)
  ·exact⟨aH ⟨by omega,h2,by omega,by omega,h4.2,by omega,hfau,h9.1,hva1,fun h=>absurd h ht,fun _=>by omega⟩,rfl⟩
  ·exact⟨an (fun h=>h10 (by have:=h.non ht;omega)),rfl⟩
theorem jD (p:aq) (s:aB) (c:ap) (hp:¬bV p) (hw:aX c=false):aa Tryz.prog 114 [.agg (bc p), .agg (bW s), .agg (aY c)] (fun u=>u= .int .i64 (jP p s c)):=by
 refine aa.intro ab ac Tryz.func114 rfl (by decide) ?_;(conv=>whnf)
 refine am rfl ?_
 conv=>whnf
 refine am rfl ?_
 conv=>whnf
 refine am rfl ?_
 conv=>whnf
 (refine oP (BE p s hp) ?_;conv=>whnf)
 refine ag ?_ ?_<;>(intro h1;conv=>whnf)
 ·exact⟨aj (by rw[jP,if_pos h1]),rfl⟩
 ·have:=dY (p:=p) (s:=s) (by omega)
  refine dC (mB p s c hp hw (by omega)) (fun _=>?_) (fun _=>?_)<;>(conv=>whnf)
  ·rename_i h;exact⟨aj (by rw[jP,if_neg h1,vX,if_pos h]),rfl⟩
  ·rename_i h;exact⟨aj (by rw[jP,if_neg h1,vX,if_neg h]),rfl⟩
theorem gF (l:List Int) (hl:l.length<=1000000):aa Tryz.prog 59 [.sl 0 aD l] (fun u=>u= .sl 0 aD l):=by
 refine aa.intro ab ac Tryz.func59 rfl (by decide) ?_;(conv=>whnf)
 refine c8 0 aD [] rfl ?_
 conv=>whnf
 refine eC _ rfl (by simp only[List.length_nil];omega) ?_
 conv=>whnf
 exact⟨rfl,rfl⟩
theorem HH (c:ap) (hw:aX c=false):aa Tryz.prog 67 [.agg (aY c)] (fun u=>u= .agg (aY c)):=by
 have hc:c.shape.length<=100/\c.states.length<=100/\c.sent.length<=100/\c.faulty.length<=100:=by
  unfold aX at hw
  simp at hw
  omega
 refine aa.intro ab ac Tryz.func67 rfl (by decide) ?_;(conv=>whnf)
 refine am rfl ?_
 conv=>whnf
 refine dP ?_
 conv=>whnf
 (refine oC (gF c.shape (by omega)) ?_;conv=>whnf)
 (refine oC (gF c.states (by omega)) ?_;conv=>whnf)
 (refine oC (gF c.sent (by omega)) ?_;conv=>whnf)
 (refine oC (gF c.faulty (by omega)) ?_;conv=>whnf)
 exact⟨rfl,rfl⟩
def xH (r:Sh):Sh:=.sl (.int .nil) r
def nums (l:List (xy (.int .nil))):List Int:=l.map (fun x=>x.1)
section
variable {S:ae}
end
end Go.Proofs.YtblcpnmnibcbbaaGreatDoor
