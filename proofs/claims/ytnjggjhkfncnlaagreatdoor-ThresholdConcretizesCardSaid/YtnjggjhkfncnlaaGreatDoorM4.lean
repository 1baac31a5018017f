import Derived.Test.YtnjggjhkfncnlaaGreatDoorM3
set_option linter.unusedVariables false
set_option linter.unusedSimpArgs false
namespace Go.Proofs.YtnjggjhkfncnlaaGreatDoor
set_option maxRecDepth 100000
set_option maxHeartbeats 4000000
theorem sS:∀(l:List Int) (n:Nat),lK n l=decide (bR n l=some [])
 |[],n=>by
  cases n with
  |zero=>rfl
  |succ n=>rw[fU];simp[lK];omega
 |x::xs,0=>by rw[fc];simp[lK]
 |x::xs,n+1=>by
  rw[cE,lK]
  by_cases h0:x=0
  ·subst h0
   rw[if_neg (by omega),if_neg (by omega),if_pos rfl]
   have:=sS xs n
   rw[<-this];congr 1<;>omega
  ·by_cases h2:x=2
   ·subst h2
    rw[if_neg (by omega),if_neg (by omega),if_neg h0,if_pos rfl]
    have:=sS xs (n+2)
    rw[<-this];congr 1<;>omega
   ·rw[if_neg (by omega),if_pos ⟨h0,h2⟩,if_neg h0,if_neg h2];simp
theorem pR (l:List Int) (hl:l.length<=1000):ab Tryz.prog 154 [.sl 0 an l] (fun u=>u= .bool (decide (shp l))):=by
 have:=Bm l hl
 rw[show lK 1 l=decide (shp l) from sS l 1] at this
 exact this
def qO (p:au):Int:=if p.fault=1\/p.fault=2 then 1048576 else 0
structure VC (p:au) (s:bA) (c:aR):Prop where
 len:(c.states.length:Int)=iU p s
 sta:jC c.states p.states.length
 cor:c.correct=s.n-s.f
 snl:c.sent.length=p.messages.length
 sen:jC c.sent 1048577
 fal:c.faulty.length=p.messages.length
 fau:jC c.faulty (qO p+1)
 va0:0<=c.value
 va1:c.value<1\/c.value<p.values.length
 tre:p.topology=4->(c.shape.length:Int)=s.n/\shp c.shape
 non:p.topology≠4->c.shape.length=0
noncomputable instance decVC (p:au) (s:bA) (c:aR):Decidable (VC p s c):=Classical.propDecidable _
noncomputable def pS (p:au) (s:bA) (c:aR):Int:=if VC p s c then 0 else 1
theorem sT (l:List Int) (m:Int) (hl:l.length<=1000):ab Tryz.prog 118 [.sl 0 an l, .int .i64 m] (fun u=>u= .bool (decide (jC l (m+1)))):=by
 refine ab.intro ac ag Tryz.func118 rfl (by decide) ?_;(conv=>whnf)
 refine aH.loopF ac ag (fun k:Nat=>k<=l.length/\∀j,j<k->0<=l.getD j 0/\l.getD j 0<m+1) (fun k=>[(9, .int .i64 (k:Int))]) (fun _=>[]) (fun k=>l.length-k) 0 ⟨by omega,fun j hj=>by omega⟩ ?_;conv=>whnf
 refine⟨sI,?_⟩
 rintro k ⟨hk,ha⟩
 conv=>whnf
 refine ah ?_ ?_<;>(intro h1;conv=>whnf)
 ·refine nI ?_
  rw[tN]
  by_cases h2:0<=l.getD k 0/\l.getD k 0<m+1
  ·conv=>whnf
   repeat' ((first|refine nI ?_|refine aI ?_|refine tI ?_|refine fI ?_|fail);conv=>whnf)
   refine⟨k+1,sI,⟨by omega,fun j hj=>?_⟩,by dsimp only;omega⟩
   by_cases e:j=k
   ·subst e;omega
   ·exact ha j (by omega)
  ·conv=>whnf
   repeat' ((first|refine nI ?_|refine aI ?_|refine dz trivial (by omega) ?_|refine dV trivial (by omega) ?_|refine dI ?_|refine dR ?_|refine dP ?_|refine al rfl ?_|refine pI _ rfl ?_|refine ap _ rfl ?_|refine tI ?_|refine fI ?_|refine ah (fun _=>?_) (fun _=>?_))<;>conv=>whnf)
   all_goals exact⟨aq (fun h=>h2 (h k (by omega))),rfl⟩
 ·exact⟨az (fun j hj=>ha j (by omega)),rfl⟩
theorem u9 {l:List Int} (h:shp l):mw l≠[]:=by
 intro e
 have h1:=x4 h
 have h2:(mw l).length=l.length:=by simp[mw]
 rw[e] at h2
 simp at h2
 omega
theorem sU (p:au) (s:bA) (c:aR) (hp:¬fD p) (hw:ct c=false) (hs:0<=s.n/\s.n<=1048576/\0<=s.f/\s.f<=1048576):ab Tryz.prog 56 [.agg (aO p), .agg (cj s), .agg (aW c)] (fun u=>u= .int .i64 (pS p s c)):=by
 have hle:=b7 hp
 have hc:c.shape.length<=100/\c.states.length<=100/\c.sent.length<=100/\c.faulty.length<=100:=by
  unfold ct at hw
  simp at hw
  omega
 have bad:¬VC p s c->pS p s c=1:=fun h=>by rw[pS,if_neg h]
 refine ab.intro ac ag Tryz.func56 rfl (by decide) ?_;(conv=>whnf)
 refine al rfl ?_
 conv=>whnf
 refine al rfl ?_
 conv=>whnf
 refine al rfl ?_
 conv=>whnf
 have hwl:(qO p=1048576/\(p.fault=1\/p.fault=2))\/(qO p=0/\¬(p.fault=1\/p.fault=2)):=by
  unfold qO
  by_cases h:p.fault=1\/p.fault=2
  ·rw[if_pos h];exact .inl ⟨rfl,h⟩
  ·rw[if_neg h];exact .inr ⟨rfl,h⟩
 have ht4:p.topology=4\/p.topology≠4:=by omega
 rcases ht4 with ht|ht<;>rcases hwl with ⟨hwl,hfa⟩|⟨hwl,hfa⟩
 all_goals
  repeat' (first|(refine tI ?_;conv=>whnf)|(refine fI ?_;conv=>whnf)|(refine ah ?_ ?_<;>(intro _;conv=>whnf)))
 all_goals
  refine dI ?_
  conv=>whnf
  (refine oC (u6 p s hs) ?_;conv=>whnf)
  refine ah ?_ ?_<;>(intro h1;conv=>whnf)
  case refine_2=>
   repeat' ((first|refine nI ?_|refine aI ?_|refine tI ?_|refine fI ?_|fail);conv=>whnf)
   exact⟨ae (bad (fun h=>h1 h.len)).symm,rfl⟩
  repeat' ((first|refine nI ?_|refine aI ?_|refine tI ?_|refine fI ?_|fail);conv=>whnf)
  refine dD (sT c.states _ (by omega)) (fun _=>?_) (fun _=>?_)<;>(conv=>whnf)
  case refine_2=>
   rename_i h
   repeat' ((first|refine nI ?_|refine aI ?_|refine tI ?_|refine fI ?_|fail);conv=>whnf)
   exact⟨ae (bad (fun hh=>h (by have:=hh.sta;rwa [show(p.states.length:Int)-1+1=p.states.length by omega]))).symm,rfl⟩
  rename_i h2
  rw[show(p.states.length:Int)-1+1=p.states.length by omega] at h2
  repeat' ((first|refine nI ?_|refine aI ?_|refine tI ?_|refine fI ?_|fail);conv=>whnf)
  refine ah ?_ ?_<;>(intro h3;conv=>whnf)
  case refine_2=>
   repeat' ((first|refine nI ?_|refine aI ?_|refine tI ?_|refine fI ?_|fail);conv=>whnf)
   exact⟨ae (bad (fun h=>h3 h.cor)).symm,rfl⟩
  refine ah ?_ ?_<;>(intro h4;conv=>whnf)
  case refine_2=>
   repeat' ((first|refine nI ?_|refine aI ?_|refine tI ?_|refine fI ?_|fail);conv=>whnf)
   exact⟨ae (bad (fun h=>h4 (by have:=h.snl;omega))).symm,rfl⟩
  refine dD (sT c.sent _ (by omega)) (fun _=>?_) (fun _=>?_)<;>(conv=>whnf)
  case refine_2=>
   rename_i h
   repeat' ((first|refine nI ?_|refine aI ?_|refine tI ?_|refine fI ?_|fail);conv=>whnf)
   exact⟨ae (bad (fun hh=>h hh.sen)).symm,rfl⟩
  rename_i h5
  refine ah ?_ ?_<;>(intro h6;conv=>whnf)
  case refine_2=>
   repeat' ((first|refine nI ?_|refine aI ?_|refine tI ?_|refine fI ?_|fail);conv=>whnf)
   exact⟨ae (bad (fun h=>h6 (by have:=h.fal;omega))).symm,rfl⟩
  refine dD (sT c.faulty _ (by omega)) (fun _=>?_) (fun _=>?_)<;>(conv=>whnf)
  case refine_2=>
   rename_i h
   repeat' ((first|refine nI ?_|refine aI ?_|refine tI ?_|refine fI ?_|fail);conv=>whnf)
   exact⟨ae (bad (fun hh=>h (by have:=hh.fau;rwa [hwl] at this))).symm,rfl⟩
  rename_i h7
  refine ah ?_ ?_<;>(intro h8;conv=>whnf)
  case refine_2=>
   repeat' ((first|refine nI ?_|refine aI ?_|refine tI ?_|refine fI ?_|fail);conv=>whnf)
   exact⟨ae (bad (fun h=>h8 h.va0)).symm,rfl⟩
  refine ah ?_ ?_<;>(intro h9;conv=>whnf)
  case refine_2=>
   repeat' ((first|refine nI ?_|refine aI ?_|refine tI ?_|refine fI ?_|fail);conv=>whnf)
   exact⟨ae (bad (fun h=>h9 (by have:=h.va1;split<;>omega))).symm,rfl⟩
  have hva1:c.value<1\/c.value<p.values.length:=by split at h9<;>omega
  repeat' ((first|refine nI ?_|refine aI ?_|refine tI ?_|refine fI ?_|fail);conv=>whnf)
  refine ah ?_ ?_<;>(intro h10;conv=>whnf)
 all_goals try first
  |exact⟨ae (bad (fun h=>by have:=h.tre ht;omega)).symm,rfl⟩
  |exact⟨ae (bad (fun h=>by have:=h.non ht;omega)).symm,rfl⟩
  |exact⟨ae (by rw[pS,if_pos ⟨h1,h2,h3,by omega,h5,by omega,by rw[hwl];exact h7,h8,hva1,fun h=>absurd h ht,fun _=>by omega⟩]),rfl⟩
  |skip
 all_goals
  have hE:=x5 c.shape (by omega)
  by_cases hsh:shp c.shape
  ·rw[if_pos hsh] at hE
   (refine oP (hE) ?_;conv=>whnf)
   refine bI (u9 hsh) ?_
   conv=>whnf
   exact⟨ae (by rw[pS,if_pos ⟨h1,h2,h3,by omega,h5,by omega,by rw[hwl];exact h7,h8,hva1,fun _=>⟨h10,hsh⟩,fun h=>absurd ht h⟩]),rfl⟩
  ·rw[if_neg hsh] at hE
   (refine oP (hE) ?_;conv=>whnf)
   exact⟨ae (bad (fun h=>hsh (h.tre ht).2)).symm,rfl⟩
noncomputable def bK (p:au) (s:bA) (c:aR):Int:=if bG p s≠0 then bG p s else pS p s c
theorem jF (p:au) (s:bA) (c:aR) (hp:¬fD p) (hw:ct c=false):ab Tryz.prog 218 [.agg (aO p), .agg (cj s), .agg (aW c)] (fun u=>u= .int .i64 (bK p s c)):=by
 refine ab.intro ac ag Tryz.func218 rfl (by decide) ?_;(conv=>whnf)
 refine al rfl ?_
 conv=>whnf
 refine al rfl ?_
 conv=>whnf
 refine al rfl ?_
 conv=>whnf
 (refine oP (wR p s hp) ?_;conv=>whnf)
 refine ah ?_ ?_<;>(intro h1;conv=>whnf)
 ·exact⟨ae (by rw[bK,if_pos h1]),rfl⟩
 ·have:=hJ (p:=p) (s:=s) (by omega)
  (refine oP (sU p s c hp hw (by omega)) ?_;conv=>whnf)
  exact⟨ae (by rw[bK,if_neg h1]),rfl⟩
theorem gf (a b c:Int):ab Tryz.prog 153 [.int .i64 a, .int .i64 b, .int .i64 c] (fun u=>u= .bool (decide (b<=a/\a<=c))):=by
 refine ab.intro ac ag Tryz.func153 rfl (by decide) ?_;(conv=>whnf)
 repeat' ((first|refine nI ?_|refine aI ?_|refine dz trivial (by omega) ?_|refine dV trivial (by omega) ?_|refine dI ?_|refine dR ?_|refine dP ?_|refine al rfl ?_|refine pI _ rfl ?_|refine ap _ rfl ?_|refine tI ?_|refine fI ?_|refine ah (fun _=>?_) (fun _=>?_))<;>conv=>whnf)
 all_goals first
  |exact⟨az (by omega),rfl⟩
  |exact⟨aq (by omega),rfl⟩
theorem vb (l:List Int) (n:Int) (hl:l.length<=1000):ab Tryz.prog 151 [.sl 0 an l, .int .i64 n] (fun u=>u= .bool (decide ((l.length:Int)=n/\jC l 1048577))):=by
 refine ab.intro ac ag Tryz.func151 rfl (by decide) ?_;(conv=>whnf)
 refine ah ?_ ?_<;>(intro h0;conv=>whnf)
 ·exact⟨aq (fun h=>h0 h.1),rfl⟩
 refine aH.loopF ac ag (fun k:Nat=>k<=l.length/\∀j,j<k->0<=l.getD j 0/\l.getD j 0<1048577) (fun k=>[(5, .int .i64 (k:Int))]) (fun _=>[]) (fun k=>l.length-k) 0 ⟨by omega,fun j hj=>by omega⟩ ?_;conv=>whnf
 refine⟨sI,?_⟩
 rintro k ⟨hk,ha⟩
 conv=>whnf
 refine ah ?_ ?_<;>(intro h1;conv=>whnf)
 ·refine nI ?_
  rw[tN]
  conv=>whnf
  refine dC (gf _ _ _) (fun _=>?_) (fun _=>?_)<;>(conv=>whnf)
  ·rename_i h2
   repeat' ((first|refine nI ?_|refine aI ?_|refine tI ?_|refine fI ?_|fail);conv=>whnf)
   refine⟨k+1,sI,⟨by omega,fun j hj=>?_⟩,by dsimp only;omega⟩
   by_cases e:j=k
   ·subst e;omega
   ·exact ha j (by omega)
  ·rename_i h2
   exact⟨aq (fun h=>h2 (by have:=h.2 k (by omega);omega)),rfl⟩
 ·exact⟨az ⟨by omega,fun j hj=>ha j (by omega)⟩,rfl⟩
theorem EL (p:au) (l:List Int) (hl:l.length<=1000) (hp:p.states.length<=1000):ab Tryz.prog 150 [.agg (aO p), .sl 0 an l] (fun u=>u= .bool (decide (jC l p.states.length))):=by
 refine ab.intro ac ag Tryz.func150 rfl (by decide) ?_;(conv=>whnf)
 refine al rfl ?_
 conv=>whnf
 refine aH.loopF ac ag (fun k:Nat=>k<=l.length/\∀j,j<k->0<=l.getD j 0/\l.getD j 0<p.states.length) (fun k=>[(5, .int .i64 (k:Int))]) (fun _=>[]) (fun k=>l.length-k) 0 ⟨by omega,fun j hj=>by omega⟩ ?_;conv=>whnf
 refine⟨sI,?_⟩
 rintro k ⟨hk,ha⟩
 conv=>whnf
 refine ah ?_ ?_<;>(intro h1;conv=>whnf)
 ·refine dI ?_
  conv=>whnf
  refine nI ?_
  rw[tN]
  conv=>whnf
  repeat' ((first|refine nI ?_|refine aI ?_|refine tI ?_|refine fI ?_|fail);conv=>whnf)
  refine dD (gf _ _ _) (fun _=>?_) (fun _=>?_)<;>(conv=>whnf)
  ·rename_i h2
   repeat' ((first|refine nI ?_|refine aI ?_|refine tI ?_|refine fI ?_|fail);conv=>whnf)
   refine⟨k+1,sI,⟨by omega,fun j hj=>?_⟩,by dsimp only;omega⟩
   by_cases e:j=k
   ·subst e;omega
   ·exact ha j (by omega)
  ·rename_i h2
   exact⟨aq (fun h=>h2 (by have:=h k (by omega);omega)),rfl⟩
 ·exact⟨az (fun j hj=>ha j (by omega)),rfl⟩
theorem BJ (p:au):ab Tryz.prog 152 [.agg (aO p)] (fun u=>u= .bool (decide (p.fault=1\/p.fault=2))):=by
 refine ab.intro ac ag Tryz.func152 rfl (by decide) ?_;(conv=>whnf)
 refine al rfl ?_
 conv=>whnf
 repeat' ((first|refine nI ?_|refine aI ?_|refine dz trivial (by omega) ?_|refine dV trivial (by omega) ?_|refine dI ?_|refine dR ?_|refine dP ?_|refine al rfl ?_|refine pI _ rfl ?_|refine ap _ rfl ?_|refine tI ?_|refine fI ?_|refine ah (fun _=>?_) (fun _=>?_))<;>conv=>whnf)
 all_goals first
  |exact⟨az (by omega),rfl⟩
  |exact⟨aq (by omega),rfl⟩
theorem sV (p:au) (s:bA) (c:aR) (hp:¬fD p) (hw:ct c=false) (hs:0<=s.n/\s.n<=1048576/\0<=s.f/\s.f<=1048576):ab Tryz.prog 76 [.agg (aO p), .agg (cj s), .agg (aW c)] (fun u=>u= .bool (decide (VC p s c))):=by
 have hle:=b7 hp
 have hc:c.shape.length<=100/\c.states.length<=100/\c.sent.length<=100/\c.faulty.length<=100:=by
  unfold ct at hw
  simp at hw
  omega
 have hwl:(qO p=1048576/\(p.fault=1\/p.fault=2))\/(qO p=0/\¬(p.fault=1\/p.fault=2)):=by
  unfold qO
  by_cases h:p.fault=1\/p.fault=2
  ·rw[if_pos h];exact .inl ⟨rfl,h⟩
  ·rw[if_neg h];exact .inr ⟨rfl,h⟩
 refine ab.intro ac ag Tryz.func76 rfl (by decide) ?_;(conv=>whnf)
 refine al rfl ?_
 conv=>whnf
 refine al rfl ?_
 conv=>whnf
 refine al rfl ?_
 conv=>whnf
 refine dI ?_
 conv=>whnf
 (refine oC (u7 p s hs) ?_;conv=>whnf)
 refine ah ?_ ?_<;>(intro h1;conv=>whnf)
 ·exact⟨aq (fun h=>h1 h.len),rfl⟩
 refine dD (EL p c.states (by omega) (by omega)) (fun _=>?_) (fun _=>?_)<;>(conv=>whnf)
 case refine_2=>rename_i h;exact⟨aq (fun hh=>h hh.sta),rfl⟩
 rename_i h2
 repeat' ((first|refine nI ?_|refine aI ?_|refine tI ?_|refine fI ?_|fail);conv=>whnf)
 refine ah ?_ ?_<;>(intro h3;conv=>whnf)
 ·exact⟨aq (fun h=>h3 h.cor),rfl⟩
 refine dD (vb c.sent _ (by omega)) (fun _=>?_) (fun _=>?_)<;>(conv=>whnf)
 case refine_2=>rename_i h;exact⟨aq (fun hh=>h ⟨by have:=hh.snl;omega,hh.sen⟩),rfl⟩
 rename_i h4
 refine dD (vb c.faulty _ (by omega)) (fun _=>?_) (fun _=>?_)<;>(conv=>whnf)
 case refine_2=>
  rename_i h
  refine⟨aq (fun hh=>h ⟨by have:=hh.fal;omega,fun j hj=>?_⟩),rfl⟩
  have:=hh.fau j hj
  omega
 rename_i h5
 refine aH.loopF ac ag (fun k:Nat=>k<=c.faulty.length/\∀j,j<k->c.faulty.getD j 0≠0->(p.fault=1\/p.fault=2)) (fun k=>[(7, .int .i64 (k:Int))]) (fun _=>[]) (fun k=>c.faulty.length-k) 0 ⟨by omega,fun j hj=>by omega⟩ ?_;conv=>whnf
 refine⟨sI,?_⟩
 rintro k ⟨hk,ha⟩
 conv=>whnf
 refine ah ?_ ?_<;>(intro h6;conv=>whnf)
 ·refine nI ?_
  rw[tN]
  conv=>whnf
  refine ah ?_ ?_<;>(intro h7;conv=>whnf)
  ·refine dC (BJ p) (fun _=>?_) (fun _=>?_)<;>(conv=>whnf)
   ·rename_i h8
    repeat' ((first|refine nI ?_|refine aI ?_|refine tI ?_|refine fI ?_|fail);conv=>whnf)
    exact⟨k+1,sI,⟨by omega,fun j hj _=>h8⟩,by dsimp only;omega⟩
   ·rename_i h8
    refine⟨aq (fun hh=>?_),rfl⟩
    have h9:=hh.fau k (by omega)
    omega
  ·repeat' ((first|refine nI ?_|refine aI ?_|refine tI ?_|refine fI ?_|fail);conv=>whnf)
   refine⟨k+1,sI,⟨by omega,fun j hj h8=>?_⟩,by dsimp only;omega⟩
   by_cases e:j=k
   ·subst e;exact absurd h8 h7
   ·exact ha j (by omega) h8
 have hfau:jC c.faulty (qO p+1):=fun j hj=>by
  have a1:=h5.2 j hj
  have a2:=ha j (by omega)
  omega
 repeat' ((first|refine nI ?_|refine aI ?_|refine tI ?_|refine fI ?_|fail);conv=>whnf)
 refine dC (gf _ _ _) (fun _=>?_) (fun _=>?_)<;>(conv=>whnf)
 case refine_2=>
  rename_i h
  refine⟨aq (fun hh=>h ⟨hh.va0,?_⟩),rfl⟩
  have:=hh.va1
  split<;>omega
 rename_i h9
 have hva1:c.value<1\/c.value<p.values.length:=by
  have:=h9.2
  split at this<;>omega
 refine ah ?_ ?_<;>(intro ht;conv=>whnf)
 ·refine ah ?_ ?_<;>(intro h10;conv=>whnf)
  ·refine dC (pR c.shape (by omega)) (fun _=>?_) (fun _=>?_)<;>(conv=>whnf)
   ·rename_i hsh
    exact⟨az ⟨by omega,h2,by omega,by omega,h4.2,by omega,hfau,h9.1,hva1,fun _=>⟨h10,hsh⟩,fun h=>absurd ht h⟩,rfl⟩
   ·rename_i hsh
    exact⟨aq (fun h=>hsh (h.tre ht).2),rfl⟩
  ·exact⟨aq (fun h=>h10 (h.tre ht).1),rfl⟩
 ·refine ah ?_ ?_<;>(intro h10;conv=>whnf)
  ·exact⟨az ⟨by omega,h2,by omega,by omega,h4.2,by omega,hfau,h9.1,hva1,fun h=>absurd h ht,fun _=>by omega⟩,rfl⟩
  ·exact⟨aq (fun h=>h10 (by have:=h.non ht;omega)),rfl⟩
theorem jG (p:au) (s:bA) (c:aR) (hp:¬fD p) (hw:ct c=false):ab Tryz.prog 189 [.agg (aO p), .agg (cj s), .agg (aW c)] (fun u=>u= .int .i64 (bK p s c)):=by
 refine ab.intro ac ag Tryz.func189 rfl (by decide) ?_;(conv=>whnf)
 refine al rfl ?_
 conv=>whnf
 refine al rfl ?_
 conv=>whnf
 refine al rfl ?_
 conv=>whnf
 (refine oP (GR p s hp) ?_;conv=>whnf)
 refine ah ?_ ?_<;>(intro h1;conv=>whnf)
 ·exact⟨ae (by rw[bK,if_pos h1]),rfl⟩
 ·have:=hJ (p:=p) (s:=s) (by omega)
  refine dC (sV p s c hp hw (by omega)) (fun _=>?_) (fun _=>?_)<;>(conv=>whnf)
  ·rename_i h;exact⟨ae (by rw[bK,if_neg h1,pS,if_pos h]),rfl⟩
  ·rename_i h;exact⟨ae (by rw[bK,if_neg h1,pS,if_neg h]),rfl⟩
def gn (r:Sh):Sh:=.sl (.int .nil) r
def sW:Sh:=.int (.int (.int (.int .nil)))
def sX:Sh:=.int (.int (.int (.int (.int (.int .nil)))))
def nv:Sh:=.str (.int (.int (.int (.int (.int (gn (.sl sX (gn (gn (.int (.int (gn (.int (gn (gn (gn (.int .nil)))))))))))))))))
def jH (l:List (fT (.int .nil))):List Int:=l.map (fun x=>x.1)
def BK (l:List (fT (.str .nil))):List ByteArray:=l.map (fun x=>x.1)
def yb:fT sW->g7
 |(a,b,c,d,_)=>⟨a,b,c,d⟩
def yc:fT sX->eg
 |(a,b,c,d,e,f,_)=>⟨a,b,⟨c,d,e,f⟩⟩
def lz:fT nv->bp
 |(a,b,c,d,e,f,g,h,i,j,k,l,m,n,o,p,q,r,_)=>⟨a,b,c,d,e,f,jH g,List.map yc h,jH i,jH j,k,l,jH m,n,jH o,jH p,jH q,r⟩
section
variable {S:ai}
theorem GS (y:fT sW):v5 S (ce sW y) (bM (yb y)):=by
 obtain⟨a,b,c,d,⟨⟩⟩:=y
 exact⟨Cv.refl _ _,Cv.refl _ _,Cv.refl _ _,Cv.refl _ _,trivial⟩
theorem GT (y:fT sX):v5 S (ce sX y) (bT (yc y)):=by
 obtain⟨a,b,c,d,e,f,⟨⟩⟩:=y
 exact⟨Cv.refl _ _,Cv.refl _ _,Cv.refl _ _,Cv.refl _ _,Cv.refl _ _,Cv.refl _ _,trivial⟩
theorem EM (l:List (fT sW)):Cv S (.sl (ik sW) (ce sW) l) (.sl dc bM (l.map yb)):=
 Cv.sl (d:=ik sW) (enc:=ce sW) dc bM yb fun y _=>⟨GS y,rfl⟩
theorem EN (l:List (fT sX)):Cv S (.sl (ik sX) (ce sX) l) (.sl aE bT (l.map yc)):=
 Cv.sl (d:=ik sX) (enc:=ce sX) aE bT yc fun y _=>⟨GT y,rfl⟩
theorem GU (y:fT nv):v5 S (ce nv y) (dF (lz y)):=by
 obtain⟨a,b,c,d,e,f,g,h,i,j,k,l,m,n,o,p,q,r,⟨⟩⟩:=y
 exact⟨Cv.refl _ _,Cv.refl _ _,Cv.refl _ _,Cv.refl _ _,Cv.refl _ _,Cv.refl _ _,Cv.ints g,EN h,Cv.ints i,Cv.ints j,Cv.refl _ _,Cv.refl _ _,Cv.ints m,Cv.refl _ _,Cv.ints o,Cv.ints p,Cv.ints q,Cv.refl _ _,trivial⟩
theorem EO (l:List (fT nv)):Cv S (.sl (ik nv) (ce nv) l) (.sl ar dF (l.map lz)):=
 Cv.sl (d:=ik nv) (enc:=ce nv) ar dF lz fun y _=>⟨GU y,rfl⟩
end
end Go.Proofs.YtnjggjhkfncnlaaGreatDoor
