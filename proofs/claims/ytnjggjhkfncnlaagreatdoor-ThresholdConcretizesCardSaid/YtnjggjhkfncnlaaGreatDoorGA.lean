import Derived.Test.YtnjggjhkfncnlaaGreatDoorM4
import Derived.Test.YtnjggjhkfncnlaaGreatDoorM6
import Derived.Test.YtnjggjhkfncnlaaGreatDoorP1
import Derived.Test.YtnjggjhkfncnlaaGreatDoorFtE
import Derived.Test.YtnjggjhkfncnlaaGreatDoorFwX
import Derived.Test.YtnjggjhkfncnlaaGreatDoorW0
set_option linter.unusedVariables false
set_option linter.unusedSimpArgs false
namespace Go.Proofs.YtnjggjhkfncnlaaGreatDoor
set_option maxRecDepth 100000
set_option maxHeartbeats 8000000
def xw (c:aR):Prop:=c.shape.length<=140737488355328/\c.states.length<=140737488355328/\c.sent.length<=140737488355328/\c.faulty.length<=140737488355328
theorem xx (p:au) (s:bA) (hp:gM p):ab Tryz.prog 55 [.agg (aO p), .agg (cj s)] (fun u=>u= .int .i64 (bG p s)):=by
 refine ab.intro ac ag Tryz.func55 rfl (by decide) ?_;(conv=>whnf)
 refine al rfl ?_
 conv=>whnf
 refine al rfl ?_
 conv=>whnf
 (refine oP (fo p hp) ?_;conv=>whnf)
 refine ah ?_ ?_<;>(intro h1;conv=>whnf)
 ·(refine oP (fo p hp) ?_;conv=>whnf)
  exact⟨ae (by rw[bG,if_pos h1]),rfl⟩
 have h1:aB p=0:=by omega
 refine dC (oc p s (dZ h1) h1) (fun _=>?_) (fun _=>?_)<;>(conv=>whnf)
 ·rename_i h2
  refine ah ?_ ?_<;>(intro h3;conv=>whnf)
  ·exact⟨ae (by rw[bG,if_neg (by omega),if_neg (fun h=>h h2),if_pos h3]),rfl⟩
  ·exact⟨ae (by rw[bG,if_neg (by omega),if_neg (fun h=>h h2),if_neg h3]),rfl⟩
 ·rename_i h2
  exact⟨ae (by rw[bG,if_neg (by omega),if_pos h2]),rfl⟩
theorem HU (p:au) (s:bA) (hp:gM p):ab Tryz.prog 75 [.agg (aO p), .agg (cj s)] (fun u=>u= .int .i64 (bG p s)):=by
 refine ab.intro ac ag Tryz.func75 rfl (by decide) ?_;(conv=>whnf)
 refine al rfl ?_
 conv=>whnf
 refine al rfl ?_
 conv=>whnf
 (refine oP (fY p hp) ?_;conv=>whnf)
 refine ah ?_ ?_<;>(intro h1;conv=>whnf)
 ·exact⟨ae (by rw[bG,if_pos h1]),rfl⟩
 have h1:aB p=0:=by omega
 refine dC (kF p s (dZ h1) (jE h1)) (fun _=>?_) (fun _=>?_)<;>(conv=>whnf)
 ·rename_i h2
  refine ah ?_ ?_<;>(intro h3;conv=>whnf)
  ·exact⟨ae (by rw[bG,if_neg (by omega),if_neg (fun h=>h h2),if_pos h3]),rfl⟩
  ·exact⟨ae (by rw[bG,if_neg (by omega),if_neg (fun h=>h h2),if_neg h3]),rfl⟩
 ·rename_i h2
  exact⟨ae (by rw[bG,if_neg (by omega),if_pos h2]),rfl⟩
theorem tE (l:List Int) (m:Int) (hl:l.length<=140737488355328):ab Tryz.prog 118 [.sl 0 an l, .int .i64 m] (fun u=>u= .bool (decide (jC l (m+1)))):=by
 refine ab.intro ac ag Tryz.func118 rfl (by decide) ?_;(conv=>whnf)
 refine aH.loopF ac ag (fun k:Nat=>k<=l.length/\∀j,j<k->0<=l.getD j 0/\l.getD j 0<m+1) (fun k=>[(9, .int .i64 (k:Int))]) (fun _=>[]) (fun k=>l.length-k) 0 ⟨by omega,fun j hj=>by omega⟩ ?_;conv=>whnf
 refine⟨sI,?_⟩
 rintro k ⟨hk,ha⟩
 conv=>whnf
 refine ah ?_ ?_<;>(intro h1;conv=>whnf)
 ·refine nI ?_
  rw[tN]
  by_cases h2:0<=l.getD k 0/\l.getD k 0<m+1
  ·conv=>whnf
   repeat' ((first|refine nI ?_|refine aI ?_|refine tI ?_|refine fI ?_|fail);conv=>whnf)
   refine⟨k+1,sI,⟨by omega,fun j hj=>?_⟩,by dsimp only;omega⟩
   by_cases e:j=k
   ·subst e;omega
   ·exact ha j (by omega)
  ·conv=>whnf
   repeat' ((first|refine nI ?_|refine aI ?_|refine dz trivial (by omega) ?_|refine dV trivial (by omega) ?_|refine dI ?_|refine dR ?_|refine dP ?_|refine al rfl ?_|refine pI _ rfl ?_|refine ap _ rfl ?_|refine tI ?_|refine fI ?_|refine ah (fun _=>?_) (fun _=>?_))<;>conv=>whnf)
   all_goals exact⟨aq (fun h=>h2 (h k (by omega))),rfl⟩
 ·exact⟨az (fun j hj=>ha j (by omega)),rfl⟩
theorem tF (p:au) (s:bA) (c:aR) (hp:¬fD p) (hc0:xw c) (hs0:0<=s.n/\s.n<=8/\0<=s.f/\s.f<=8):ab Tryz.prog 56 [.agg (aO p), .agg (cj s), .agg (aW c)] (fun u=>u= .int .i64 (pS p s c)):=by
 have hle:=b7 hp
 have hc:=hc0
 unfold xw at hc
 have hs:0<=s.n/\s.n<=1048576/\0<=s.f/\s.f<=1048576:=by omega
 have bad:¬VC p s c->pS p s c=1:=fun h=>by rw[pS,if_neg h]
 refine ab.intro ac ag Tryz.func56 rfl (by decide) ?_;(conv=>whnf)
 refine al rfl ?_
 conv=>whnf
 refine al rfl ?_
 conv=>whnf
 refine al rfl ?_
 conv=>whnf
 have hwl:(qO p=1048576/\(p.fault=1\/p.fault=2))\/(qO p=0/\¬(p.fault=1\/p.fault=2)):=by
  unfold qO
  by_cases h:p.fault=1\/p.fault=2
  ·rw[if_pos h];exact .inl ⟨rfl,h⟩
  ·rw[if_neg h];exact .inr ⟨rfl,h⟩
 have ht4:p.topology=4\/p.topology≠4:=by omega
 rcases ht4 with ht|ht<;>rcases hwl with ⟨hwl,hfa⟩|⟨hwl,hfa⟩
 all_goals
  repeat' (first|(refine tI ?_;conv=>whnf)|(refine fI ?_;conv=>whnf)|(refine ah ?_ ?_<;>(intro _;conv=>whnf)))
 all_goals
  refine dI ?_
  conv=>whnf
  (refine oC (u6 p s hs) ?_;conv=>whnf)
  refine ah ?_ ?_<;>(intro h1;conv=>whnf)
  case refine_2=>
   repeat' ((first|refine nI ?_|refine aI ?_|refine tI ?_|refine fI ?_|fail);conv=>whnf)
   exact⟨ae (bad (fun h=>h1 h.len)).symm,rfl⟩
  repeat' ((first|refine nI ?_|refine aI ?_|refine tI ?_|refine fI ?_|fail);conv=>whnf)
  refine dD (tE c.states _ (by omega)) (fun _=>?_) (fun _=>?_)<;>(conv=>whnf)
  case refine_2=>
   rename_i h
   repeat' ((first|refine nI ?_|refine aI ?_|refine tI ?_|refine fI ?_|fail);conv=>whnf)
   exact⟨ae (bad (fun hh=>h (by have:=hh.sta;rwa [show(p.states.length:Int)-1+1=p.states.length by omega]))).symm,rfl⟩
  rename_i h2
  rw[show(p.states.length:Int)-1+1=p.states.length by omega] at h2
  repeat' ((first|refine nI ?_|refine aI ?_|refine tI ?_|refine fI ?_|fail);conv=>whnf)
  refine ah ?_ ?_<;>(intro h3;conv=>whnf)
  case refine_2=>
   repeat' ((first|refine nI ?_|refine aI ?_|refine tI ?_|refine fI ?_|fail);conv=>whnf)
   exact⟨ae (bad (fun h=>h3 h.cor)).symm,rfl⟩
  refine ah ?_ ?_<;>(intro h4;conv=>whnf)
  case refine_2=>
   repeat' ((first|refine nI ?_|refine aI ?_|refine tI ?_|refine fI ?_|fail);conv=>whnf)
   exact⟨ae (bad (fun h=>h4 (by have:=h.snl;omega))).symm,rfl⟩
  refine dD (tE c.sent _ (by omega)) (fun _=>?_) (fun _=>?_)<;>(conv=>whnf)
  case refine_2=>
   rename_i h
   repeat' ((first|refine nI ?_|refine aI ?_|refine tI ?_|refine fI ?_|fail);conv=>whnf)
   exact⟨ae (bad (fun hh=>h hh.sen)).symm,rfl⟩
  rename_i h5
  refine ah ?_ ?_<;>(intro h6;conv=>whnf)
  case refine_2=>
   repeat' ((first|refine nI ?_|refine aI ?_|refine tI ?_|refine fI ?_|fail);conv=>whnf)
   exact⟨ae (bad (fun h=>h6 (by have:=h.fal;omega))).symm,rfl⟩
  refine dD (tE c.faulty _ (by omega)) (fun _=>?_) (fun _=>?_)<;>(conv=>whnf)
  case refine_2=>
   rename_i h
   repeat' ((first|refine nI ?_|refine aI ?_|refine tI ?_|refine fI ?_|fail);conv=>whnf)
   exact⟨ae (bad (fun hh=>h (by have:=hh.fau;rwa [hwl] at this))).symm,rfl⟩
  rename_i h7
  refine ah ?_ ?_<;>(intro h8;conv=>whnf)
  case refine_2=>
   repeat' ((first|refine nI ?_|refine aI ?_|refine tI ?_|refine fI ?_|fail);conv=>whnf)
   exact⟨ae (bad (fun h=>h8 h.va0)).symm,rfl⟩
  refine ah ?_ ?_<;>(intro h9;conv=>whnf)
  case refine_2=>
   repeat' ((first|refine nI ?_|refine aI ?_|refine tI ?_|refine fI ?_|fail);conv=>whnf)
   exact⟨ae (bad (fun h=>h9 (by have:=h.va1;split<;>omega))).symm,rfl⟩
  have hva1:c.value<1\/c.value<p.values.length:=by split at h9<;>omega
  repeat' ((first|refine nI ?_|refine aI ?_|refine tI ?_|refine fI ?_|fail);conv=>whnf)
  refine ah ?_ ?_<;>(intro h10;conv=>whnf)
 all_goals try first
  |exact⟨ae (bad (fun h=>by have:=h.tre ht;omega)).symm,rfl⟩
  |exact⟨ae (bad (fun h=>by have:=h.non ht;omega)).symm,rfl⟩
  |exact⟨ae (by rw[pS,if_pos ⟨h1,h2,h3,by omega,h5,by omega,by rw[hwl];exact h7,h8,hva1,fun h=>absurd h ht,fun _=>by omega⟩]),rfl⟩
  |skip
 all_goals
  have hE:=x5 c.shape (by omega)
  by_cases hsh:shp c.shape
  ·rw[if_pos hsh] at hE
   (refine oP (hE) ?_;conv=>whnf)
   refine bI (u9 hsh) ?_
   conv=>whnf
   exact⟨ae (by rw[pS,if_pos ⟨h1,h2,h3,by omega,h5,by omega,by rw[hwl];exact h7,h8,hva1,fun _=>⟨h10,hsh⟩,fun h=>absurd ht h⟩]),rfl⟩
  ·rw[if_neg hsh] at hE
   (refine oP (hE) ?_;conv=>whnf)
   exact⟨ae (bad (fun h=>hsh (h.tre ht).2)).symm,rfl⟩
theorem tG (p:au) (s:bA) (c:aR) (hp:gM p) (hc:xw c):ab Tryz.prog 218 [.agg (aO p), .agg (cj s), .agg (aW c)] (fun u=>u= .int .i64 (bK p s c)):=by
 refine ab.intro ac ag Tryz.func218 rfl (by decide) ?_;(conv=>whnf)
 refine al rfl ?_
 conv=>whnf
 refine al rfl ?_
 conv=>whnf
 refine al rfl ?_
 conv=>whnf
 (refine oP (xx p s hp) ?_;conv=>whnf)
 refine ah ?_ ?_<;>(intro h1;conv=>whnf)
 ·exact⟨ae (by rw[bK,if_pos h1]),rfl⟩
 ·have:=hJ (p:=p) (s:=s) (by omega)
  (refine oP (tF p s c (dZ this.1) hc (by omega)) ?_;conv=>whnf)
  exact⟨ae (by rw[bK,if_neg h1]),rfl⟩
theorem vP (l:List Int) (n:Int) (hl:l.length<=140737488355328):ab Tryz.prog 151 [.sl 0 an l, .int .i64 n] (fun u=>u= .bool (decide ((l.length:Int)=n/\jC l 1048577))):=by
 refine ab.intro ac ag Tryz.func151 rfl (by decide) ?_;(conv=>whnf)
 refine ah ?_ ?_<;>(intro h0;conv=>whnf)
 ·exact⟨aq (fun h=>h0 h.1),rfl⟩
 refine aH.loopF ac ag (fun k:Nat=>k<=l.length/\∀j,j<k->0<=l.getD j 0/\l.getD j 0<1048577) (fun k=>[(5, .int .i64 (k:Int))]) (fun _=>[]) (fun k=>l.length-k) 0 ⟨by omega,fun j hj=>by omega⟩ ?_;conv=>whnf
 refine⟨sI,?_⟩
 rintro k ⟨hk,ha⟩
 conv=>whnf
 refine ah ?_ ?_<;>(intro h1;conv=>whnf)
 ·refine nI ?_
  rw[tN]
  conv=>whnf
  refine dC (gf _ _ _) (fun _=>?_) (fun _=>?_)<;>(conv=>whnf)
  ·rename_i h2
   repeat' ((first|refine nI ?_|refine aI ?_|refine tI ?_|refine fI ?_|fail);conv=>whnf)
   refine⟨k+1,sI,⟨by omega,fun j hj=>?_⟩,by dsimp only;omega⟩
   by_cases e:j=k
   ·subst e;omega
   ·exact ha j (by omega)
  ·rename_i h2
   exact⟨aq (fun h=>h2 (by have:=h.2 k (by omega);omega)),rfl⟩
 ·exact⟨az ⟨by omega,fun j hj=>ha j (by omega)⟩,rfl⟩
theorem FD (p:au) (l:List Int) (hl:l.length<=140737488355328) (hp:p.states.length<=1000):ab Tryz.prog 150 [.agg (aO p), .sl 0 an l] (fun u=>u= .bool (decide (jC l p.states.length))):=by
 refine ab.intro ac ag Tryz.func150 rfl (by decide) ?_;(conv=>whnf)
 refine al rfl ?_
 conv=>whnf
 refine aH.loopF ac ag (fun k:Nat=>k<=l.length/\∀j,j<k->0<=l.getD j 0/\l.getD j 0<p.states.length) (fun k=>[(5, .int .i64 (k:Int))]) (fun _=>[]) (fun k=>l.length-k) 0 ⟨by omega,fun j hj=>by omega⟩ ?_;conv=>whnf
 refine⟨sI,?_⟩
 rintro k ⟨hk,ha⟩
 conv=>whnf
 refine ah ?_ ?_<;>(intro h1;conv=>whnf)
 ·refine dI ?_
  conv=>whnf
  refine nI ?_
  rw[tN]
  conv=>whnf
  repeat' ((first|refine nI ?_|refine aI ?_|refine tI ?_|refine fI ?_|fail);conv=>whnf)
  refine dD (gf _ _ _) (fun _=>?_) (fun _=>?_)<;>(conv=>whnf)
  ·rename_i h2
   repeat' ((first|refine nI ?_|refine aI ?_|refine tI ?_|refine fI ?_|fail);conv=>whnf)
   refine⟨k+1,sI,⟨by omega,fun j hj=>?_⟩,by dsimp only;omega⟩
   by_cases e:j=k
   ·subst e;omega
   ·exact ha j (by omega)
  ·rename_i h2
   exact⟨aq (fun h=>h2 (by have:=h k (by omega);omega)),rfl⟩
 ·exact⟨az (fun j hj=>ha j (by omega)),rfl⟩
theorem tH (p:au) (s:bA) (c:aR) (hp:¬fD p) (hc0:xw c) (hs0:0<=s.n/\s.n<=8/\0<=s.f/\s.f<=8):ab Tryz.prog 76 [.agg (aO p), .agg (cj s), .agg (aW c)] (fun u=>u= .bool (decide (VC p s c))):=by
 have hle:=b7 hp
 have hc:=hc0
 unfold xw at hc
 have hs:0<=s.n/\s.n<=1048576/\0<=s.f/\s.f<=1048576:=by omega
 have hwl:(qO p=1048576/\(p.fault=1\/p.fault=2))\/(qO p=0/\¬(p.fault=1\/p.fault=2)):=by
  unfold qO
  by_cases h:p.fault=1\/p.fault=2
  ·rw[if_pos h];exact .inl ⟨rfl,h⟩
  ·rw[if_neg h];exact .inr ⟨rfl,h⟩
 refine ab.intro ac ag Tryz.func76 rfl (by decide) ?_;(conv=>whnf)
 refine al rfl ?_
 conv=>whnf
 refine al rfl ?_
 conv=>whnf
 refine al rfl ?_
 conv=>whnf
 refine dI ?_
 conv=>whnf
 (refine oC (u7 p s hs) ?_;conv=>whnf)
 refine ah ?_ ?_<;>(intro h1;conv=>whnf)
 ·exact⟨aq (fun h=>h1 h.len),rfl⟩
 refine dD (FD p c.states (by omega) (by omega)) (fun _=>?_) (fun _=>?_)<;>(conv=>whnf)
 case refine_2=>rename_i h;exact⟨aq (fun hh=>h hh.sta),rfl⟩
 rename_i h2
 repeat' ((first|refine nI ?_|refine aI ?_|refine tI ?_|refine fI ?_|fail);conv=>whnf)
 refine ah ?_ ?_<;>(intro h3;conv=>whnf)
 ·exact⟨aq (fun h=>h3 h.cor),rfl⟩
 refine dD (vP c.sent _ (by omega)) (fun _=>?_) (fun _=>?_)<;>(conv=>whnf)
 case refine_2=>rename_i h;exact⟨aq (fun hh=>h ⟨by have:=hh.snl;omega,hh.sen⟩),rfl⟩
 rename_i h4
 refine dD (vP c.faulty _ (by omega)) (fun _=>?_) (fun _=>?_)<;>(conv=>whnf)
 case refine_2=>
  rename_i h
  refine⟨aq (fun hh=>h ⟨by have:=hh.fal;omega,fun j hj=>?_⟩),rfl⟩
  have:=hh.fau j hj
  omega
 rename_i h5
 refine aH.loopF ac ag (fun k:Nat=>k<=c.faulty.length/\∀j,j<k->c.faulty.getD j 0≠0->(p.fault=1\/p.fault=2)) (fun k=>[(7, .int .i64 (k:Int))]) (fun _=>[]) (fun k=>c.faulty.length-k) 0 ⟨by omega,fun j hj=>by omega⟩ ?_;conv=>whnf
 refine⟨sI,?_⟩
 rintro k ⟨hk,ha⟩
 conv=>whnf
 refine ah ?_ ?_<;>(intro h6;conv=>whnf)
 ·refine nI ?_
  rw[tN]
  conv=>whnf
  refine ah ?_ ?_<;>(intro h7;conv=>whnf)
  ·refine dC (BJ p) (fun _=>?_) (fun _=>?_)<;>(conv=>whnf)
   ·rename_i h8
    repeat' ((first|refine nI ?_|refine aI ?_|refine tI ?_|refine fI ?_|fail);conv=>whnf)
    exact⟨k+1,sI,⟨by omega,fun j hj _=>h8⟩,by dsimp only;omega⟩
   ·rename_i h8
    refine⟨aq (fun hh=>?_),rfl⟩
    have h9:=hh.fau k (by omega)
    omega
  ·repeat' ((first|refine nI ?_|refine aI ?_|refine tI ?_|refine fI ?_|fail);conv=>whnf)
   refine⟨k+1,sI,⟨by omega,fun j hj h8=>?_⟩,by dsimp only;omega⟩
   by_cases e:j=k
   ·subst e;exact absurd h8 h7
   ·exact ha j (by omega) h8
 have hfau:jC c.faulty (qO p+1):=fun j hj=>by
  have a1:=h5.2 j hj
  have a2:=ha j (by omega)
  omega
 repeat' ((first|refine nI ?_|refine aI ?_|refine tI ?_|refine fI ?_|fail);conv=>whnf)
 refine dC (gf _ _ _) (fun _=>?_) (fun _=>?_)<;>(conv=>whnf)
 case refine_2=>
  rename_i h
  refine⟨aq (fun hh=>h ⟨hh.va0,?_⟩),rfl⟩
  have:=hh.va1
  split<;>omega
 rename_i h9
 have hva1:c.value<1\/c.value<p.values.length:=by
  have:=h9.2
  split at this<;>omega
 refine ah ?_ ?_<;>(intro ht;conv=>whnf)
 ·refine ah ?_ ?_<;>(intro h10;conv=>whnf)
  ·refine dC (pR c.shape (by omega)) (fun _=>?_) (fun _=>?_)<;>(conv=>whnf)
   ·rename_i hsh
    exact⟨az ⟨by omega,h2,by omega,by omega,h4.2,by omega,hfau,h9.1,hva1,fun _=>⟨h10,hsh⟩,fun h=>absurd ht h⟩,rfl⟩
   ·rename_i hsh
    exact⟨aq (fun h=>hsh (h.tre ht).2),rfl⟩
  ·exact⟨aq (fun h=>h10 (h.tre ht).1),rfl⟩
 ·refine ah ?_ ?_<;>(intro h10;conv=>whnf)
  ·exact⟨az ⟨by omega,h2,by omega,by omega,h4.2,by omega,hfau,h9.1,hva1,fun h=>absurd h ht,fun _=>by omega⟩,rfl⟩
  ·exact⟨aq (fun h=>h10 (by have:=h.non ht;omega)),rfl⟩
theorem mV (p:au) (s:bA) (c:aR) (hp:gM p) (hc:xw c):ab Tryz.prog 189 [.agg (aO p), .agg (cj s), .agg (aW c)] (fun u=>u= .int .i64 (bK p s c)):=by
 refine ab.intro ac ag Tryz.func189 rfl (by decide) ?_;(conv=>whnf)
 refine al rfl ?_
 conv=>whnf
 refine al rfl ?_
 conv=>whnf
 refine al rfl ?_
 conv=>whnf
 (refine oP (HU p s hp) ?_;conv=>whnf)
 refine ah ?_ ?_<;>(intro h1;conv=>whnf)
 ·exact⟨ae (by rw[bK,if_pos h1]),rfl⟩
 ·have:=hJ (p:=p) (s:=s) (by omega)
  refine dC (tH p s c (dZ this.1) hc (by omega)) (fun _=>?_) (fun _=>?_)<;>(conv=>whnf)
  ·rename_i h;exact⟨ae (by rw[bK,if_neg h1,pS,if_pos h]),rfl⟩
  ·rename_i h;exact⟨ae (by rw[bK,if_neg h1,pS,if_neg h]),rfl⟩
theorem FE {p:au} {s:bA} {c:aR} (hz:bG p s=0) (h:VC p s c):ct c=false:=by
 have h2:=hJ (p:=p) (s:=s) hz
 have hle:=b7 (dZ h2.1)
 have hm:iU p s<=s.n:=by unfold iU;split<;>omega
 have h3:=h.len
 have h4:=h.snl
 have h5:=h.fal
 have h6:c.shape.length<=8:=by
  by_cases ht:p.topology=4
  ·have:=(h.tre ht).1;omega
  ·have:=h.non ht;omega
 unfold ct
 simp only[Bool.or_eq_false_iff,decide_eq_false_iff_not]
 omega
theorem xy {p:au} {s:bA} {c:aR} (h:bK p s c=0):gu p s c:=by
 have hz:bG p s=0:=by
  unfold bK at h
  by_cases h1:bG p s≠0
  ·rw[if_pos h1] at h;exact absurd h h1
  ·exact Classical.not_not.1 h1
 have hv:VC p s c:=by
  unfold bK at h
  rw[if_neg (fun x=>x hz)] at h
  refine Classical.byContradiction fun hn=>?_
  rw[pS,if_neg hn] at h
  omega
 exact gu.of (dZ (hJ hz).1) (FE hz hv) h
theorem yI {p:au} {s:bA} {c:aR} (hz:bG p s=0) (h:VC p s c):bK p s c=0:=by
 unfold bK
 rw[if_neg (by omega),pS,if_pos h]
set_option maxHeartbeats 16000000
noncomputable def qZ (p:au) (s:bA) (c:aR):Int:=if bG p s≠0 then bG p s else if¬io p then 7 else pS p s c
theorem yJ {p:au} {s:bA} (h:aB p≠0):bG p s=aB p:=by unfold bG;rw[if_pos h]
theorem FF {p:au} {s:bA} (h:aB p=0):bG p s=if¬li p s then 8 else if 8<s.n then 4 else 0:=by unfold bG;rw[if_neg (fun x=>x h)]
theorem HV {p:au} {s:bA} {c:aR} (h:qZ p s c=0):bG p s=0/\io p/\VC p s c/\gu p s c/\bK p s c=0:=by
 unfold qZ at h
 by_cases h1:bG p s≠0
 ·rw[if_pos h1] at h;exact absurd h h1
 rw[if_neg h1] at h
 by_cases h2:¬io p
 ·rw[if_pos h2] at h;omega
 rw[if_neg h2] at h
 have h2:=Classical.not_not.1 h2
 have h1:=Classical.not_not.1 h1
 have h3:VC p s c:=by
  refine Classical.byContradiction fun hn=>?_
  rw[pS,if_neg hn] at h
  omega
 exact⟨h1,h2,h3,xy (yI h1 h3),yI h1 h3⟩
theorem tJ (p:au) (s:bA) (hp:gM p) (hv:aB p=0):ab Tryz.prog 147 [.agg (aO p), .agg (cj s)] (fun u=>u= .bool (decide (li p s))):=by
 have hV:=fY p hp
 rw[hv] at hV
 refine ab.intro ac ag Tryz.func147 rfl (by decide) ?_;(conv=>whnf)
 refine al rfl ?_
 conv=>whnf
 refine al rfl ?_
 conv=>whnf
 (refine oP (hV) ?_;conv=>whnf)
 repeat' ((first|refine nI ?_|refine aI ?_|refine tI ?_|refine fI ?_|fail);conv=>whnf)
 refine dC (kF p s (dZ hv) (jE hv)) (fun _=>?_) (fun _=>?_)<;>(conv=>whnf)
 ·rename_i h;exact⟨az h,rfl⟩
 ·rename_i h;exact⟨aq h,rfl⟩
theorem yK (p:au) (s:bA) (hp:gM p) (hv:aB p=0):ab Tryz.prog 74 [.agg (aO p), .agg (cj s)] (fun u=>u= .int .i64 (bG p s)):=by
 have e:=FF (s:=s) hv
 refine ab.intro ac ag Tryz.func74 rfl (by decide) ?_;(conv=>whnf)
 refine al rfl ?_
 conv=>whnf
 refine al rfl ?_
 conv=>whnf
 refine dC (tJ p s hp hv) (fun _=>?_) (fun _=>?_)<;>(conv=>whnf)
 ·rename_i h
  rw[if_neg (fun x=>x h)] at e
  refine ah ?_ ?_<;>(intro h2;conv=>whnf)
  ·exact⟨n9 (by rw[e,if_pos (by omega)]),rfl⟩
  ·exact⟨n9 (by rw[e,if_neg (by omega)]),rfl⟩
 ·rename_i h
  exact⟨n9 (by rw[e,if_pos h]),rfl⟩
theorem FG (p:au) (s:bA) (c:aR) (hp:gM p) (hc:xw c):ab Tryz.prog 111 [.agg (aO p), .agg (cj s), .agg (aW c)] (fun u=>u= .int .i64 (qZ p s c)):=by
 have he:=qZ.eq_1 p s c
 refine ab.intro ac ag Tryz.func111 rfl (by decide) ?_;(conv=>whnf)
 refine al rfl ?_
 conv=>whnf
 refine al rfl ?_
 conv=>whnf
 refine al rfl ?_
 conv=>whnf
 by_cases hv:aB p=0
 rotate_left
 ·(refine oP (Cr p hp hv) ?_;conv=>whnf)
  refine da hv ?_
  conv=>whnf
  rw[if_pos (by rw[yJ hv];exact hv),yJ hv] at he
  exact⟨n9 he.symm,rfl⟩
 refine ak.of_pure (n:=5) (Cq p hp hv) rfl ?_
 rintro _ ⟨b1,b2,b3,b4,rfl⟩
 by_cases ht:io p
 rotate_left
 ·rw[decide_eq_false ht]
  conv=>whnf
  repeat' ((first|refine nI ?_|refine aI ?_|refine tI ?_|refine fI ?_|fail);conv=>whnf)
  (refine oP (yK p s hp hv) ?_;conv=>whnf)
  refine ah ?_ ?_<;>(intro h;conv=>whnf)
  ·rw[if_pos h] at he
   exact⟨n9 he.symm,rfl⟩
  ·rw[if_neg h,if_pos ht] at he
   exact⟨n9 he.symm,rfl⟩
 rw[decide_eq_true ht]
 conv=>whnf
 repeat' ((first|refine nI ?_|refine aI ?_|refine tI ?_|refine fI ?_|fail);conv=>whnf)
 (refine oP (yK p s hp hv) ?_;conv=>whnf)
 refine ah ?_ ?_<;>(intro h;conv=>whnf)
 ·rw[if_pos h] at he
  exact⟨n9 he.symm,rfl⟩
 have hz:bG p s=0:=Classical.not_not.1 h
 rw[if_neg h,if_neg (fun x=>x ht)] at he
 have hV:=mV p s c hp hc
 rw[show bK p s c=pS p s c by unfold bK;rw[if_neg (fun x=>x hz)]] at hV
 (refine oP (hV) ?_;conv=>whnf)
 exact⟨n9 he.symm,rfl⟩
end Go.Proofs.YtnjggjhkfncnlaaGreatDoor
