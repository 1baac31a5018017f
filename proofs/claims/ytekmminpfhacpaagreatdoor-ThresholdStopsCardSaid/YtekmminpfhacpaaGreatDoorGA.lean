import Derived.Test.YtekmminpfhacpaaGreatDoorW0
import Derived.Test.YtekmminpfhacpaaGreatDoorA1
set_option linter.unusedVariables false
set_option linter.unusedSimpArgs false
namespace Go.Proofs.YtekmminpfhacpaaGreatDoor
set_option maxRecDepth 100000
set_option maxHeartbeats 8000000
def yk (c:ay):Prop:=c.shape.length<=140737488355328/\c.states.length<=140737488355328/\c.sent.length<=140737488355328/\c.faulty.length<=140737488355328
theorem vF (p:an) (s:aC) (hp:g7 p):ab Tryz.prog 94 [.agg (aB p), .agg (bv s)] (fun u=>u= .int .i64 (aJ p s)):=by
 refine ab.intro ac ae Tryz.func94 rfl (by decide) ?_;(conv=>whnf)
 refine ak rfl ?_
 conv=>whnf
 refine ak rfl ?_
 conv=>whnf
 (refine oP (dj p hp) ?_;conv=>whnf)
 refine ag ?_ ?_<;>(intro h1;conv=>whnf)
 ·(refine oP (dj p hp) ?_;conv=>whnf)
  exact⟨ah (by rw[aJ,if_pos h1]),rfl⟩
 have h1:aw p=0:=by omega
 refine dC (jC p s (dE h1) h1) (fun _=>?_) (fun _=>?_)<;>(conv=>whnf)
 ·rename_i h2
  refine ag ?_ ?_<;>(intro h3;conv=>whnf)
  ·exact⟨ah (by rw[aJ,if_neg (by omega),if_neg (fun h=>h h2),if_pos h3]),rfl⟩
  ·exact⟨ah (by rw[aJ,if_neg (by omega),if_neg (fun h=>h h2),if_neg h3]),rfl⟩
 ·rename_i h2
  exact⟨ah (by rw[aJ,if_neg (by omega),if_pos h2]),rfl⟩
theorem FU (p:an) (s:aC) (hp:g7 p):ab Tryz.prog 144 [.agg (aB p), .agg (bv s)] (fun u=>u= .int .i64 (aJ p s)):=by
 refine ab.intro ac ae Tryz.func144 rfl (by decide) ?_;(conv=>whnf)
 refine ak rfl ?_
 conv=>whnf
 refine ak rfl ?_
 conv=>whnf
 (refine oP (f6 p hp) ?_;conv=>whnf)
 refine ag ?_ ?_<;>(intro h1;conv=>whnf)
 ·exact⟨ah (by rw[aJ,if_pos h1]),rfl⟩
 have h1:aw p=0:=by omega
 refine dC (jB p s (dE h1) (iV h1)) (fun _=>?_) (fun _=>?_)<;>(conv=>whnf)
 ·rename_i h2
  refine ag ?_ ?_<;>(intro h3;conv=>whnf)
  ·exact⟨ah (by rw[aJ,if_neg (by omega),if_neg (fun h=>h h2),if_pos h3]),rfl⟩
  ·exact⟨ah (by rw[aJ,if_neg (by omega),if_neg (fun h=>h h2),if_neg h3]),rfl⟩
 ·rename_i h2
  exact⟨ah (by rw[aJ,if_neg (by omega),if_pos h2]),rfl⟩
theorem rU (l:List Int) (m:Int) (hl:l.length<=140737488355328):ab Tryz.prog 183 [.sl 0 ao l, .int .i64 m] (fun u=>u= .bool (decide (iy l (m+1)))):=by
 refine ab.intro ac ae Tryz.func183 rfl (by decide) ?_;(conv=>whnf)
 refine aF.loopF ac ae (fun k:Nat=>k<=l.length/\∀j,j<k->0<=l.getD j 0/\l.getD j 0<m+1) (fun k=>[(9, .int .i64 (k:Int))]) (fun _=>[]) (fun k=>l.length-k) 0 ⟨by omega,fun j hj=>by omega⟩ ?_;conv=>whnf
 refine⟨sI,?_⟩
 rintro k ⟨hk,ha⟩
 conv=>whnf
 refine ag ?_ ?_<;>(intro h1;conv=>whnf)
 ·refine nI ?_
  rw[tN]
  by_cases h2:0<=l.getD k 0/\l.getD k 0<m+1
  ·conv=>whnf
   repeat' ((first|refine nI ?_|refine aI ?_|refine tI ?_|refine fI ?_|fail);conv=>whnf)
   refine⟨k+1,sI,⟨by omega,fun j hj=>?_⟩,by dsimp only;omega⟩
   by_cases e:j=k
   ·subst e;omega
   ·exact ha j (by omega)
  ·conv=>whnf
   repeat' ((first|refine nI ?_|refine aI ?_|refine uI ?_|refine vI ?_|refine dI ?_|refine dR ?_|refine dP ?_|refine ak rfl ?_|refine pI _ rfl ?_|refine ap _ rfl ?_|refine tI ?_|refine fI ?_|refine ag (fun _=>?_) (fun _=>?_))<;>conv=>whnf)
   all_goals exact⟨al (fun h=>h2 (h k (by omega))),rfl⟩
 ·exact⟨av (fun j hj=>ha j (by omega)),rfl⟩
theorem rV (p:an) (s:aC) (c:ay) (hp:¬cp p) (hc0:yk c) (hs0:0<=s.n/\s.n<=8/\0<=s.f/\s.f<=8):ab Tryz.prog 95 [.agg (aB p), .agg (bv s), .agg (bd c)] (fun u=>u= .int .i64 (km p s c)):=by
 have hle:=aO hp
 have hc:=hc0
 unfold yk at hc
 have hs:0<=s.n/\s.n<=1048576/\0<=s.f/\s.f<=1048576:=by omega
 have bad:¬VC p s c->km p s c=1:=fun h=>by rw[km,if_neg h]
 refine ab.intro ac ae Tryz.func95 rfl (by decide) ?_;(conv=>whnf)
 refine ak rfl ?_
 conv=>whnf
 refine ak rfl ?_
 conv=>whnf
 refine ak rfl ?_
 conv=>whnf
 have hwl:(rj p=1048576/\(p.fault=1\/p.fault=2))\/(rj p=0/\¬(p.fault=1\/p.fault=2)):=by
  unfold rj
  by_cases h:p.fault=1\/p.fault=2
  ·rw[if_pos h];exact .inl ⟨rfl,h⟩
  ·rw[if_neg h];exact .inr ⟨rfl,h⟩
 have ht4:p.topology=4\/p.topology≠4:=by omega
 rcases ht4 with ht|ht<;>rcases hwl with ⟨hwl,hfa⟩|⟨hwl,hfa⟩
 all_goals
  repeat' (first|(refine tI ?_;conv=>whnf)|(refine fI ?_;conv=>whnf)|(refine ag ?_ ?_<;>(intro _;conv=>whnf)))
 all_goals
  refine dI ?_
  conv=>whnf
  (refine oC (tv p s hs) ?_;conv=>whnf)
  refine ag ?_ ?_<;>(intro h1;conv=>whnf)
  case refine_2=>
   repeat' ((first|refine nI ?_|refine aI ?_|refine tI ?_|refine fI ?_|fail);conv=>whnf)
   exact⟨ah (bad (fun h=>h1 h.len)).symm,rfl⟩
  repeat' ((first|refine nI ?_|refine aI ?_|refine tI ?_|refine fI ?_|fail);conv=>whnf)
  refine dD (rU c.states _ (by omega)) (fun _=>?_) (fun _=>?_)<;>(conv=>whnf)
  case refine_2=>
   rename_i h
   repeat' ((first|refine nI ?_|refine aI ?_|refine tI ?_|refine fI ?_|fail);conv=>whnf)
   exact⟨ah (bad (fun hh=>h (by have:=hh.sta;rwa [show(p.states.length:Int)-1+1=p.states.length by omega]))).symm,rfl⟩
  rename_i h2
  rw[show(p.states.length:Int)-1+1=p.states.length by omega] at h2
  repeat' ((first|refine nI ?_|refine aI ?_|refine tI ?_|refine fI ?_|fail);conv=>whnf)
  refine ag ?_ ?_<;>(intro h3;conv=>whnf)
  case refine_2=>
   repeat' ((first|refine nI ?_|refine aI ?_|refine tI ?_|refine fI ?_|fail);conv=>whnf)
   exact⟨ah (bad (fun h=>h3 h.cor)).symm,rfl⟩
  refine ag ?_ ?_<;>(intro h4;conv=>whnf)
  case refine_2=>
   repeat' ((first|refine nI ?_|refine aI ?_|refine tI ?_|refine fI ?_|fail);conv=>whnf)
   exact⟨ah (bad (fun h=>h4 (by have:=h.snl;omega))).symm,rfl⟩
  refine dD (rU c.sent _ (by omega)) (fun _=>?_) (fun _=>?_)<;>(conv=>whnf)
  case refine_2=>
   rename_i h
   repeat' ((first|refine nI ?_|refine aI ?_|refine tI ?_|refine fI ?_|fail);conv=>whnf)
   exact⟨ah (bad (fun hh=>h hh.sen)).symm,rfl⟩
  rename_i h5
  refine ag ?_ ?_<;>(intro h6;conv=>whnf)
  case refine_2=>
   repeat' ((first|refine nI ?_|refine aI ?_|refine tI ?_|refine fI ?_|fail);conv=>whnf)
   exact⟨ah (bad (fun h=>h6 (by have:=h.fal;omega))).symm,rfl⟩
  refine dD (rU c.faulty _ (by omega)) (fun _=>?_) (fun _=>?_)<;>(conv=>whnf)
  case refine_2=>
   rename_i h
   repeat' ((first|refine nI ?_|refine aI ?_|refine tI ?_|refine fI ?_|fail);conv=>whnf)
   exact⟨ah (bad (fun hh=>h (by have:=hh.fau;rwa [hwl] at this))).symm,rfl⟩
  rename_i h7
  refine ag ?_ ?_<;>(intro h8;conv=>whnf)
  case refine_2=>
   repeat' ((first|refine nI ?_|refine aI ?_|refine tI ?_|refine fI ?_|fail);conv=>whnf)
   exact⟨ah (bad (fun h=>h8 h.va0)).symm,rfl⟩
  refine ag ?_ ?_<;>(intro h9;conv=>whnf)
  case refine_2=>
   repeat' ((first|refine nI ?_|refine aI ?_|refine tI ?_|refine fI ?_|fail);conv=>whnf)
   exact⟨ah (bad (fun h=>h9 (by have:=h.va1;split<;>omega))).symm,rfl⟩
  have hva1:c.value<1\/c.value<p.values.length:=by split at h9<;>omega
  repeat' ((first|refine nI ?_|refine aI ?_|refine tI ?_|refine fI ?_|fail);conv=>whnf)
  refine ag ?_ ?_<;>(intro h10;conv=>whnf)
 all_goals try first
  |exact⟨ah (bad (fun h=>by have:=h.tre ht;omega)).symm,rfl⟩
  |exact⟨ah (bad (fun h=>by have:=h.non ht;omega)).symm,rfl⟩
  |exact⟨ah (by rw[km,if_pos ⟨h1,h2,h3,by omega,h5,by omega,by rw[hwl];exact h7,h8,hva1,fun h=>absurd h ht,fun _=>by omega⟩]),rfl⟩
  |skip
 all_goals
  have hE:=wm c.shape (by omega)
  by_cases hsh:shp c.shape
  ·rw[if_pos hsh] at hE
   (refine oP (hE) ?_;conv=>whnf)
   refine cz (tx hsh) ?_
   conv=>whnf
   exact⟨ah (by rw[km,if_pos ⟨h1,h2,h3,by omega,h5,by omega,by rw[hwl];exact h7,h8,hva1,fun _=>⟨h10,hsh⟩,fun h=>absurd ht h⟩]),rfl⟩
  ·rw[if_neg hsh] at hE
   (refine oP (hE) ?_;conv=>whnf)
   exact⟨ah (bad (fun h=>hsh (h.tre ht).2)).symm,rfl⟩
theorem rX (p:an) (s:aC) (c:ay) (hp:g7 p) (hc:yk c):ab Tryz.prog 151 [.agg (aB p), .agg (bv s), .agg (bd c)] (fun u=>u= .int .i64 (bW p s c)):=by
 refine ab.intro ac ae Tryz.func151 rfl (by decide) ?_;(conv=>whnf)
 refine ak rfl ?_
 conv=>whnf
 refine ak rfl ?_
 conv=>whnf
 refine ak rfl ?_
 conv=>whnf
 (refine oP (vF p s hp) ?_;conv=>whnf)
 refine ag ?_ ?_<;>(intro h1;conv=>whnf)
 ·exact⟨ah (by rw[bW,if_pos h1]),rfl⟩
 ·have:=c8 (p:=p) (s:=s) (by omega)
  (refine oP (rV p s c (dE this.1) hc (by omega)) ?_;conv=>whnf)
  exact⟨ah (by rw[bW,if_neg h1]),rfl⟩
theorem ua (l:List Int) (n:Int) (hl:l.length<=140737488355328):ab Tryz.prog 230 [.sl 0 ao l, .int .i64 n] (fun u=>u= .bool (decide ((l.length:Int)=n/\iy l 1048577))):=by
 refine ab.intro ac ae Tryz.func230 rfl (by decide) ?_;(conv=>whnf)
 refine ag ?_ ?_<;>(intro h0;conv=>whnf)
 ·exact⟨al (fun h=>h0 h.1),rfl⟩
 refine aF.loopF ac ae (fun k:Nat=>k<=l.length/\∀j,j<k->0<=l.getD j 0/\l.getD j 0<1048577) (fun k=>[(5, .int .i64 (k:Int))]) (fun _=>[]) (fun k=>l.length-k) 0 ⟨by omega,fun j hj=>by omega⟩ ?_;conv=>whnf
 refine⟨sI,?_⟩
 rintro k ⟨hk,ha⟩
 conv=>whnf
 refine ag ?_ ?_<;>(intro h1;conv=>whnf)
 ·refine nI ?_
  rw[tN]
  conv=>whnf
  refine dC (fk _ _ _) (fun _=>?_) (fun _=>?_)<;>(conv=>whnf)
  ·rename_i h2
   repeat' ((first|refine nI ?_|refine aI ?_|refine tI ?_|refine fI ?_|fail);conv=>whnf)
   refine⟨k+1,sI,⟨by omega,fun j hj=>?_⟩,by dsimp only;omega⟩
   by_cases e:j=k
   ·subst e;omega
   ·exact ha j (by omega)
  ·rename_i h2
   exact⟨al (fun h=>h2 (by have:=h.2 k (by omega);omega)),rfl⟩
 ·exact⟨av ⟨by omega,fun j hj=>ha j (by omega)⟩,rfl⟩
theorem Dz (p:an) (l:List Int) (hl:l.length<=140737488355328) (hp:p.states.length<=1000):ab Tryz.prog 229 [.agg (aB p), .sl 0 ao l] (fun u=>u= .bool (decide (iy l p.states.length))):=by
 refine ab.intro ac ae Tryz.func229 rfl (by decide) ?_;(conv=>whnf)
 refine ak rfl ?_
 conv=>whnf
 refine aF.loopF ac ae (fun k:Nat=>k<=l.length/\∀j,j<k->0<=l.getD j 0/\l.getD j 0<p.states.length) (fun k=>[(5, .int .i64 (k:Int))]) (fun _=>[]) (fun k=>l.length-k) 0 ⟨by omega,fun j hj=>by omega⟩ ?_;conv=>whnf
 refine⟨sI,?_⟩
 rintro k ⟨hk,ha⟩
 conv=>whnf
 refine ag ?_ ?_<;>(intro h1;conv=>whnf)
 ·refine dI ?_
  conv=>whnf
  refine nI ?_
  rw[tN]
  conv=>whnf
  repeat' ((first|refine nI ?_|refine aI ?_|refine tI ?_|refine fI ?_|fail);conv=>whnf)
  refine dD (fk _ _ _) (fun _=>?_) (fun _=>?_)<;>(conv=>whnf)
  ·rename_i h2
   repeat' ((first|refine nI ?_|refine aI ?_|refine tI ?_|refine fI ?_|fail);conv=>whnf)
   refine⟨k+1,sI,⟨by omega,fun j hj=>?_⟩,by dsimp only;omega⟩
   by_cases e:j=k
   ·subst e;omega
   ·exact ha j (by omega)
  ·rename_i h2
   exact⟨al (fun h=>h2 (by have:=h k (by omega);omega)),rfl⟩
 ·exact⟨av (fun j hj=>ha j (by omega)),rfl⟩
theorem rY (p:an) (s:aC) (c:ay) (hp:¬cp p) (hc0:yk c) (hs0:0<=s.n/\s.n<=8/\0<=s.f/\s.f<=8):ab Tryz.prog 145 [.agg (aB p), .agg (bv s), .agg (bd c)] (fun u=>u= .bool (decide (VC p s c))):=by
 have hle:=aO hp
 have hc:=hc0
 unfold yk at hc
 have hs:0<=s.n/\s.n<=1048576/\0<=s.f/\s.f<=1048576:=by omega
 have hwl:(rj p=1048576/\(p.fault=1\/p.fault=2))\/(rj p=0/\¬(p.fault=1\/p.fault=2)):=by
  unfold rj
  by_cases h:p.fault=1\/p.fault=2
  ·rw[if_pos h];exact .inl ⟨rfl,h⟩
  ·rw[if_neg h];exact .inr ⟨rfl,h⟩
 refine ab.intro ac ae Tryz.func145 rfl (by decide) ?_;(conv=>whnf)
 refine ak rfl ?_
 conv=>whnf
 refine ak rfl ?_
 conv=>whnf
 refine ak rfl ?_
 conv=>whnf
 refine dI ?_
 conv=>whnf
 (refine oC (tw p s hs) ?_;conv=>whnf)
 refine ag ?_ ?_<;>(intro h1;conv=>whnf)
 ·exact⟨al (fun h=>h1 h.len),rfl⟩
 refine dD (Dz p c.states (by omega) (by omega)) (fun _=>?_) (fun _=>?_)<;>(conv=>whnf)
 case refine_2=>rename_i h;exact⟨al (fun hh=>h hh.sta),rfl⟩
 rename_i h2
 repeat' ((first|refine nI ?_|refine aI ?_|refine tI ?_|refine fI ?_|fail);conv=>whnf)
 refine ag ?_ ?_<;>(intro h3;conv=>whnf)
 ·exact⟨al (fun h=>h3 h.cor),rfl⟩
 refine dD (ua c.sent _ (by omega)) (fun _=>?_) (fun _=>?_)<;>(conv=>whnf)
 case refine_2=>rename_i h;exact⟨al (fun hh=>h ⟨by have:=hh.snl;omega,hh.sen⟩),rfl⟩
 rename_i h4
 refine dD (ua c.faulty _ (by omega)) (fun _=>?_) (fun _=>?_)<;>(conv=>whnf)
 case refine_2=>
  rename_i h
  refine⟨al (fun hh=>h ⟨by have:=hh.fal;omega,fun j hj=>?_⟩),rfl⟩
  have:=hh.fau j hj
  omega
 rename_i h5
 refine aF.loopF ac ae (fun k:Nat=>k<=c.faulty.length/\∀j,j<k->c.faulty.getD j 0≠0->(p.fault=1\/p.fault=2)) (fun k=>[(7, .int .i64 (k:Int))]) (fun _=>[]) (fun k=>c.faulty.length-k) 0 ⟨by omega,fun j hj=>by omega⟩ ?_;conv=>whnf
 refine⟨sI,?_⟩
 rintro k ⟨hk,ha⟩
 conv=>whnf
 refine ag ?_ ?_<;>(intro h6;conv=>whnf)
 ·refine nI ?_
  rw[tN]
  conv=>whnf
  refine ag ?_ ?_<;>(intro h7;conv=>whnf)
  ·refine dC (zZ p) (fun _=>?_) (fun _=>?_)<;>(conv=>whnf)
   ·rename_i h8
    repeat' ((first|refine nI ?_|refine aI ?_|refine tI ?_|refine fI ?_|fail);conv=>whnf)
    exact⟨k+1,sI,⟨by omega,fun j hj _=>h8⟩,by dsimp only;omega⟩
   ·rename_i h8
    refine⟨al (fun hh=>?_),rfl⟩
    have h9:=hh.fau k (by omega)
    omega
  ·repeat' ((first|refine nI ?_|refine aI ?_|refine tI ?_|refine fI ?_|fail);conv=>whnf)
   refine⟨k+1,sI,⟨by omega,fun j hj h8=>?_⟩,by dsimp only;omega⟩
   by_cases e:j=k
   ·subst e;exact absurd h8 h7
   ·exact ha j (by omega) h8
 have hfau:iy c.faulty (rj p+1):=fun j hj=>by
  have a1:=h5.2 j hj
  have a2:=ha j (by omega)
  omega
 repeat' ((first|refine nI ?_|refine aI ?_|refine tI ?_|refine fI ?_|fail);conv=>whnf)
 refine dC (fk _ _ _) (fun _=>?_) (fun _=>?_)<;>(conv=>whnf)
 case refine_2=>
  rename_i h
  refine⟨al (fun hh=>h ⟨hh.va0,?_⟩),rfl⟩
  have:=hh.va1
  split<;>omega
 rename_i h9
 have hva1:c.value<1\/c.value<p.values.length:=by
  have:=h9.2
  split at this<;>omega
 refine ag ?_ ?_<;>(intro ht;conv=>whnf)
 ·refine ag ?_ ?_<;>(intro h10;conv=>whnf)
  ·refine dC (oy c.shape (by omega)) (fun _=>?_) (fun _=>?_)<;>(conv=>whnf)
   ·rename_i hsh
    exact⟨av ⟨by omega,h2,by omega,by omega,h4.2,by omega,hfau,h9.1,hva1,fun _=>⟨h10,hsh⟩,fun h=>absurd ht h⟩,rfl⟩
   ·rename_i hsh
    exact⟨al (fun h=>hsh (h.tre ht).2),rfl⟩
  ·exact⟨al (fun h=>h10 (h.tre ht).1),rfl⟩
 ·refine ag ?_ ?_<;>(intro h10;conv=>whnf)
  ·exact⟨av ⟨by omega,h2,by omega,by omega,h4.2,by omega,hfau,h9.1,hva1,fun h=>absurd h ht,fun _=>by omega⟩,rfl⟩
  ·exact⟨al (fun h=>h10 (by have:=h.non ht;omega)),rfl⟩
theorem rZ {p:an} {s:aC} {c:ay} (hz:aJ p s=0) (h:VC p s c):bh c=false:=by
 have h2:=c8 (p:=p) (s:=s) hz
 have hle:=aO (dE h2.1)
 have hm:io p s<=s.n:=by unfold io;split<;>omega
 have h3:=h.len
 have h4:=h.snl
 have h5:=h.fal
 have h6:c.shape.length<=8:=by
  by_cases ht:p.topology=4
  ·have:=(h.tre ht).1;omega
  ·have:=h.non ht;omega
 unfold bh
 simp only[Bool.or_eq_false_iff,decide_eq_false_iff_not]
 omega
theorem vG {p:an} {s:aC} {c:ay} (h:bW p s c=0):dk p s c:=by
 have hz:aJ p s=0:=by
  unfold bW at h
  by_cases h1:aJ p s≠0
  ·rw[if_pos h1] at h;exact absurd h h1
  ·exact Classical.not_not.1 h1
 have hv:VC p s c:=by
  unfold bW at h
  rw[if_neg (fun x=>x hz)] at h
  refine Classical.byContradiction fun hn=>?_
  rw[km,if_neg hn] at h
  omega
 exact dk.of (dE (c8 hz).1) (rZ hz hv) h
theorem nl {p:an} {s:aC} {c:ay} (hz:aJ p s=0) (h:VC p s c):bW p s c=0:=by
 unfold bW
 rw[if_neg (by omega),km,if_pos h]
set_option maxHeartbeats 16000000
noncomputable def ub (p:an) (s:aC) (c:ay):Int:=if aJ p s≠0 then aJ p s else if¬c9 p then 7 else km p s c
theorem DA {p:an} {s:aC} (h:aw p≠0):aJ p s=aw p:=by unfold aJ;rw[if_pos h]
theorem DB {p:an} {s:aC} (h:aw p=0):aJ p s=if¬jA p s then 8 else if 8<s.n then 4 else 0:=by unfold aJ;rw[if_neg (fun x=>x h)]
theorem FV {p:an} {s:aC} {c:ay} (h:ub p s c=0):aJ p s=0/\c9 p/\VC p s c/\dk p s c/\bW p s c=0:=by
 unfold ub at h
 by_cases h1:aJ p s≠0
 ·rw[if_pos h1] at h;exact absurd h h1
 rw[if_neg h1] at h
 by_cases h2:¬c9 p
 ·rw[if_pos h2] at h;omega
 rw[if_neg h2] at h
 have h2:=Classical.not_not.1 h2
 have h1:=Classical.not_not.1 h1
 have h3:VC p s c:=by
  refine Classical.byContradiction fun hn=>?_
  rw[km,if_neg hn] at h
  omega
 exact⟨h1,h2,h3,vG (nl h1 h3),nl h1 h3⟩
theorem FW (p:an) (s:aC) (hp:g7 p):ab Tryz.prog 150 [.agg (aB p), .agg (bv s)] (fun u=>u= .int .i64 (aJ p s)):=by
 have hV:=dj p hp
 refine ab.intro ac ae Tryz.func150 rfl (by decide) ?_;(conv=>whnf)
 refine ak rfl ?_
 conv=>whnf
 refine ak rfl ?_
 conv=>whnf
 (refine oP (hV) ?_;conv=>whnf)
 refine ag ?_ ?_<;>(intro h;conv=>whnf)
 ·exact⟨xA (DA h).symm,rfl⟩
 have hv:aw p=0:=Classical.not_not.1 h
 have e:=DB (s:=s) hv
 refine dC (jC p s (dE hv) hv) (fun _=>?_) (fun _=>?_)<;>(conv=>whnf)
 ·rename_i h
  rw[if_neg (fun x=>x h)] at e
  refine ag ?_ ?_<;>(intro h2;conv=>whnf)
  ·exact⟨xA (by rw[e,if_pos (by omega)]),rfl⟩
  ·exact⟨xA (by rw[e,if_neg (by omega)]),rfl⟩
 ·rename_i h
  exact⟨xA (by rw[e,if_pos h]),rfl⟩
theorem FX (p:an) (s:aC) (c:ay) (hp:g7 p) (hc:yk c):ab Tryz.prog 68 [.agg (aB p), .agg (bv s), .agg (bd c)] (fun u=>u= .int .i64 (ub p s c)):=by
 have he:=ub.eq_1 p s c
 refine ab.intro ac ae Tryz.func68 rfl (by decide) ?_;(conv=>whnf)
 refine ak rfl ?_
 conv=>whnf
 refine ak rfl ?_
 conv=>whnf
 refine ak rfl ?_
 conv=>whnf
 (refine oP (FW p s hp) ?_;conv=>whnf)
 refine ag ?_ ?_<;>(intro h;conv=>whnf)
 ·rw[if_pos h] at he
  exact⟨xA he.symm,rfl⟩
 have hz:aJ p s=0:=Classical.not_not.1 h
 have hv:=(c8 hz).1
 rw[if_neg h] at he
 refine am.of_pure (n:=5) (AA p hp hv) rfl ?_
 rintro _ ⟨b1,b2,b3,b4,rfl⟩
 by_cases ht:c9 p
 rotate_left
 ·rw[decide_eq_false ht]
  rw[if_pos ht] at he
  conv=>whnf
  exact⟨xA he.symm,rfl⟩
 rw[decide_eq_true ht]
 rw[if_neg (fun x=>x ht)] at he
 conv=>whnf
 have hV:=rX p s c hp hc
 rw[show bW p s c=km p s c by unfold bW;rw[if_neg (fun x=>x hz)]] at hV
 (refine oP (hV) ?_;conv=>whnf)
 exact⟨xA he.symm,rfl⟩
theorem FY {p:an} (ht:c9 p) (hv:aw p=0) {ri:Int} (hr:0<=ri/\ri<p.rules.length) (i:Int):K1 p ⟨ri,i,-1⟩:=by
 have hR:=(cG hv (i:=ri.toNat) (by omega)).read
 have h1:=(ht.2.2 ri.toNat (by omega)).1
 have h2:=ht.2.1
 exact⟨h1,by show(p.rules.getD ri.toNat aq).write=-1;omega⟩
def mC (p:an) (s:aC) (c:ay) (m:Int):Int:=c.sent.getD m.toNat 0+(if p.fault=1\/p.fault=2 then c.faulty.getD m.toNat 0 else if p.fault=3 then s.f else 0)
def uc (p:an) (s:aC) (c:ay) (i:Nat):Prop:=lx ((ar p.rules).getD i aA).bound s<=((ar p.rules).getD i aA).coef*mC p s c ((ar p.rules).getD i aA).message
instance (p:an) (s:aC) (c:ay) (i:Nat):Decidable (uc p s c i):=inferInstanceAs (Decidable (_<=_))
def cq (p:an) (s:aC) (c:ay):Nat->List Int
 |0=>[]
 |k+1=>if uc p s c k then cq p s c k++[(k:Int)] else cq p s c k
theorem pc (p:an) (s:aC) (c:ay):∀k,(cq p s c k).length<=k
 |0=>Nat.le_refl _
 |k+1=>by
  have:=pc p s c k
  rw[cq]
  split
  ·rw[List.length_append];simp only[List.length_cons,List.length_nil];omega
  ·omega
theorem lP (p:an) (s:aC) (c:ay) {a:Int}:∀{k:Nat},a∈cq p s c k↔∃i:Nat,i<k/\a=i/\uc p s c i
 |0=>by simp[cq]
 |k+1=>by
  rw[cq]
  have ih:=lP p s c (a:=a) (k:=k)
  by_cases h:uc p s c k
  ·rw[if_pos h,List.mem_append,ih,List.mem_singleton]
   constructor
   ·rintro(⟨i,h1,h2,h3⟩|rfl)
    ·exact⟨i,by omega,h2,h3⟩
    ·exact⟨k,by omega,rfl,h⟩
   ·rintro⟨i,h1,h2,h3⟩
    by_cases e:i=k
    ·subst e;exact .inr h2
    ·exact .inl ⟨i,by omega,h2,h3⟩
  ·rw[if_neg h,ih]
   constructor
   ·rintro⟨i,h1,h2,h3⟩
    exact⟨i,by omega,h2,h3⟩
   ·rintro⟨i,h1,h2,h3⟩
    refine⟨i,?_,h2,h3⟩
    by_cases e:i=k
    ·subst e;exact absurd h3 h
    ·omega
theorem Hv {p:an} {s:aC} {c:ay} (h:dk p s c) {m:Int} (hm:0<=m/\m<p.messages.length):
  (0<=c.sent.getD m.toNat 0/\c.sent.getD m.toNat 0<=1048576)/\(0<=c.faulty.getD m.toNat 0/\c.faulty.getD m.toNat 0<=1048576)/\(0<=s.f/\s.f<=8)/\(0<=mC p s c m/\mC p s c m<=2097152):=by
 have h1:=h.vc.snl
 have h2:=h.vc.fal
 have a:=h.sent.1 m.toNat (by omega)
 have b:=h.sent.2 m.toNat (by omega)
 have hz:=h.sz
 refine⟨by omega,by omega,by omega,?_⟩
 unfold mC
 split
 ·omega
 ·split<;>omega
theorem yl (p:an) (s:aC) (c:ay) (hp:g7 p) (h:dk p s c):ab Tryz.prog 66 [.agg (aB p), .agg (bv s), .agg (bd c)] (fun u=>u= .sl 0 ao (cq p s c (ar p.rules).length)):=by
 have hv:=h.val
 have hT:=(bk hv).thr
 refine ab.intro ac ae Tryz.func66 rfl (by decide) ?_;(conv=>whnf)
 refine ak rfl ?_
 conv=>whnf
 refine ak rfl ?_
 conv=>whnf
 refine ak rfl ?_
 conv=>whnf
 (refine oP (kp p hp hv) ?_;conv=>whnf)
 refine aF.loopF ac ae (fun i:Nat=>i<=(ar p.rules).length) (fun i=>[(10, .int .i64 (i:Int)),(9, .row 1000 (cq p s c i).length 1)]) (fun i=>[(1000, .row 3 0 ao (cq p s c i))]) (fun i=>(ar p.rules).length-i) 0 (Nat.zero_le _) ?_;conv=>whnf
 refine⟨aR.by_ [(1000, .nil 1)] _ 400 rfl (aa) (aa),?_⟩
 rintro i hi
 have hul:=pc p s c i
 conv=>whnf
 refine ag ?_ ?_<;>(intro k1;conv=>whnf)
 ·skip
  have hil:i<(ar p.rules).length:=by omega
  have ht:=Ax hv (bi aA hil)
  obtain⟨c1,c2,c3,b4⟩:=Hv h ht.1
  have hsl:=h.vc.snl
  have hfl:=h.vc.fal
  have hub:uc p s c i↔lx ((ar p.rules).getD i aA).bound s<=((ar p.rules).getD i aA).coef*mC p s c ((ar p.rules).getD i aA).message:=Iff.rfl
  have hm1:((ar p.rules).getD i aA).coef*mC p s c ((ar p.rules).getD i aA).message<=100*2097152:=Int.mul_le_mul (by omega) (by omega) (by omega) (by omega)
  have hm0:0<=((ar p.rules).getD i aA).coef*mC p s c ((ar p.rules).getD i aA).message:=Int.mul_nonneg (by omega) (by omega)
  have hup:cq p s c (i+1)=if uc p s c i then cq p s c i++[(i:Int)] else cq p s c i:=rfl
  have hE:=qm ((ar p.rules).getD i aA).bound s ht.2.2 h.siz
  first|refine dI ?_|refine oa (by decide+kernel) ?_
  conv=>whnf
  refine nI ?_
  rw[tN]
  conv=>whnf
  refine nI ?_
  conv=>whnf
  refine dC (fU p) (fun _=>?_) (fun _=>?_)<;>(conv=>whnf)
  ·rename_i hw
   have hw':p.fault=1\/p.fault=2:=hw
   have e:mC p s c ((ar p.rules).getD i aA).message=c.sent.getD ((ar p.rules).getD i aA).message.toNat 0+c.faulty.getD ((ar p.rules).getD i aA).message.toNat 0:=by unfold mC;rw[if_pos hw']
   rw[e] at hub hm1 hm0
   first|refine dI ?_|refine oa (by decide+kernel) ?_
   conv=>whnf
   refine nI ?_
   rw[tN]
   conv=>whnf
   refine nI ?_
   conv=>whnf
   refine aI ?_
   conv=>whnf
   refine fI ?_
   conv=>whnf
   first|refine dI ?_|refine oa (by decide+kernel) ?_
   conv=>whnf
   refine nI ?_
   rw[tN]
   conv=>whnf
   (refine oC (hE) ?_;conv=>whnf)
   refine nI ?_
   rw[tN]
   conv=>whnf
   refine aI ?_
   conv=>whnf
   refine ag ?_ ?_<;>(intro k2;conv=>whnf)
   ·refine bQ [(i:Int)] rfl lI ?_
    conv=>whnf
    repeat' ((first|refine nI ?_|refine aI ?_|refine uI ?_|refine vI ?_|refine dI ?_|refine dR ?_|refine dP ?_|refine ak rfl ?_|refine pI _ rfl ?_|refine ap _ rfl ?_|refine tI ?_|refine fI ?_|refine ag (fun _=>?_) (fun _=>?_))<;>conv=>whnf)
    refine⟨i+1,?_,by omega,by dsimp only;omega⟩
    dsimp only
    rw[hup,if_pos (hub.2 (by omega))]
    exact aR.by_ [(1000, .old 76)] _ 400 rfl (aa) (aa)
   ·repeat' ((first|refine nI ?_|refine aI ?_|refine uI ?_|refine vI ?_|refine dI ?_|refine dR ?_|refine dP ?_|refine ak rfl ?_|refine pI _ rfl ?_|refine ap _ rfl ?_|refine tI ?_|refine fI ?_|refine ag (fun _=>?_) (fun _=>?_))<;>conv=>whnf)
    refine⟨i+1,?_,by omega,by dsimp only;omega⟩
    dsimp only
    rw[hup,if_neg (fun hh=>k2 (by have:=hub.1 hh;omega))]
    exact aR.by_ [(1000, .old 1000)] _ 400 rfl (aa) (aa)
  ·rename_i hw
   have hw':¬(p.fault=1\/p.fault=2):=hw
   refine ag ?_ ?_<;>(intro k3;conv=>whnf)
   ·have e:mC p s c ((ar p.rules).getD i aA).message=c.sent.getD ((ar p.rules).getD i aA).message.toNat 0+s.f:=by unfold mC;rw[if_neg hw',if_pos k3]
    rw[e] at hub hm1 hm0
    refine aI ?_
    conv=>whnf
    first|refine dI ?_|refine oa (by decide+kernel) ?_
    conv=>whnf
    refine nI ?_
    rw[tN]
    conv=>whnf
    (refine oC (hE) ?_;conv=>whnf)
    refine nI ?_
    rw[tN]
    conv=>whnf
    refine aI ?_
    conv=>whnf
    refine ag ?_ ?_<;>(intro k2;conv=>whnf)
    ·refine bQ [(i:Int)] rfl lI ?_
     conv=>whnf
     repeat' ((first|refine nI ?_|refine aI ?_|refine uI ?_|refine vI ?_|refine dI ?_|refine dR ?_|refine dP ?_|refine ak rfl ?_|refine pI _ rfl ?_|refine ap _ rfl ?_|refine tI ?_|refine fI ?_|refine ag (fun _=>?_) (fun _=>?_))<;>conv=>whnf)
     refine⟨i+1,?_,by omega,by dsimp only;omega⟩
     dsimp only
     rw[hup,if_pos (hub.2 (by omega))]
     exact aR.by_ [(1000, .old 76)] _ 400 rfl (aa) (aa)
    ·repeat' ((first|refine nI ?_|refine aI ?_|refine uI ?_|refine vI ?_|refine dI ?_|refine dR ?_|refine dP ?_|refine ak rfl ?_|refine pI _ rfl ?_|refine ap _ rfl ?_|refine tI ?_|refine fI ?_|refine ag (fun _=>?_) (fun _=>?_))<;>conv=>whnf)
     refine⟨i+1,?_,by omega,by dsimp only;omega⟩
     dsimp only
     rw[hup,if_neg (fun hh=>k2 (by have:=hub.1 hh;omega))]
     exact aR.by_ [(1000, .old 1000)] _ 400 rfl (aa) (aa)
   ·have e:mC p s c ((ar p.rules).getD i aA).message=c.sent.getD ((ar p.rules).getD i aA).message.toNat 0:=by unfold mC;rw[if_neg hw',if_neg k3,Int.add_zero]
    rw[e] at hub hm1 hm0
    first|refine dI ?_|refine oa (by decide+kernel) ?_
    conv=>whnf
    refine nI ?_
    rw[tN]
    conv=>whnf
    (refine oC (hE) ?_;conv=>whnf)
    refine nI ?_
    rw[tN]
    conv=>whnf
    refine aI ?_
    conv=>whnf
    refine ag ?_ ?_<;>(intro k2;conv=>whnf)
    ·refine bQ [(i:Int)] rfl lI ?_
     conv=>whnf
     repeat' ((first|refine nI ?_|refine aI ?_|refine uI ?_|refine vI ?_|refine dI ?_|refine dR ?_|refine dP ?_|refine ak rfl ?_|refine pI _ rfl ?_|refine ap _ rfl ?_|refine tI ?_|refine fI ?_|refine ag (fun _=>?_) (fun _=>?_))<;>conv=>whnf)
     refine⟨i+1,?_,by omega,by dsimp only;omega⟩
     dsimp only
     rw[hup,if_pos (hub.2 (by omega))]
     exact aR.by_ [(1000, .old 76)] _ 400 rfl (aa) (aa)
    ·repeat' ((first|refine nI ?_|refine aI ?_|refine uI ?_|refine vI ?_|refine dI ?_|refine dR ?_|refine dP ?_|refine ak rfl ?_|refine pI _ rfl ?_|refine ap _ rfl ?_|refine tI ?_|refine fI ?_|refine ag (fun _=>?_) (fun _=>?_))<;>conv=>whnf)
     refine⟨i+1,?_,by omega,by dsimp only;omega⟩
     dsimp only
     rw[hup,if_neg (fun hh=>k2 (by have:=hub.1 hh;omega))]
     exact aR.by_ [(1000, .old 1000)] _ 400 rfl (aa) (aa)
 ·obtain rfl:i=(ar p.rules).length:=by omega
  exact⟨rfl,rfl⟩
def ym (p:an) (s:aC) (c:ay):Prop:=∀r:Nat,r<p.rules.length->∀i:Nat,i<c.states.length->¬nk p s c (r:Int) (i:Int)
noncomputable instance decStp (p:an) (s:aC) (c:ay):Decidable (ym p s c):=Classical.propDecidable _
noncomputable def DC (p:an) (s:aC) (c:ay):AV:=if ub p s c≠0 then .tup [.bool false, .int .i64 (ub p s c)] else .tup [.bool (decide (ym p s c)), .int .i64 0]
theorem wT {f:FuncId} {p:an} {s:aC} {c:ay} {r i:Int} (hv:bW p s c=0) (h:ab Tryz.prog f [.agg (aB p), .agg (bv s), .agg (bd c), .int .i64 r, .int .i64 i] (fun u=>u=yf p s c (nk p s c r i))):
  (nk p s c r i->ab Tryz.prog f [.agg (aB p), .agg (bv s), .agg (bd c), .int .i64 r, .int .i64 i] (fun u=>u= .tup [.bool true, .int .i64 0]))/\(¬nk p s c r i->ab Tryz.prog f [.agg (aB p), .agg (bv s), .agg (bd c), .int .i64 r, .int .i64 i] (fun u=>u= .tup [.bool false, .int .i64 0])):=by
 unfold yf at h
 rw[if_neg (fun x=>x hv)] at h
 refine⟨fun hf=>?_,fun hf=>?_⟩
 ·rw[decide_eq_true hf] at h;exact h
 ·rw[decide_eq_false hf] at h;exact h
theorem Bq (p:an) (s:aC) (c:ay) (hp:g7 p) (hc:yk c):ab Tryz.prog 21 [.agg (aB p), .agg (bv s), .agg (bd c)] (fun u=>u=DC p s c):=by
 have he:=DC.eq_1 p s c
 refine ab.intro ac ae Tryz.func21 rfl (by decide) ?_;(conv=>whnf)
 refine ak rfl ?_
 conv=>whnf
 refine ak rfl ?_
 conv=>whnf
 refine ak rfl ?_
 conv=>whnf
 (refine oP (FX p s c hp hc) ?_;conv=>whnf)
 refine ag ?_ ?_<;>(intro h;conv=>whnf)
 ·rw[if_pos h] at he
  exact⟨he.symm,rfl⟩
 rw[if_neg h] at he
 obtain⟨h1,h2,h3,h4,h5⟩:=FV (Classical.not_not.1 h)
 have hle:=aO h4.big
 have hw:=br h4.wide
 have yes:∀r i:Nat,r<p.rules.length->i<c.states.length->nk p s c r i->DC p s c= .tup [.bool false, .int .i64 0]:=fun r i hr hi hf=>by
  rw[he,decide_eq_false (fun hh=>hh r hr i hi hf)]
 refine aF.loopF ac ae (fun r:Nat=>r<=p.rules.length/\∀a:Nat,a<r->∀i:Nat,i<c.states.length->¬nk p s c (a:Int) (i:Int)) (fun r=>[(23, .int .i64 (r:Int))]) (fun _=>[]) (fun r=>p.rules.length-r) 0 ⟨Nat.zero_le _,fun a ha=>absurd ha (Nat.not_lt_zero _)⟩ ?_;conv=>whnf
 refine⟨sI,?_⟩
 rintro r ⟨hr,ha⟩
 conv=>whnf
 refine ag ?_ ?_<;>(intro k1;conv=>whnf)
 ·have hrl:r<p.rules.length:=by omega
  refine aF.loopF ac ae (fun i:Nat=>i<=c.states.length/\∀j:Nat,j<i->¬nk p s c (r:Int) (j:Int)) (fun i=>[(29, .int .i64 (i:Int))]) (fun _=>[]) (fun i=>c.states.length-i) 0 ⟨Nat.zero_le _,fun a ha=>absurd ha (Nat.not_lt_zero _)⟩ ?_;conv=>whnf
  refine⟨sI,?_⟩
  rintro i ⟨hi,hb⟩
  conv=>whnf
  refine ag ?_ ?_<;>(intro k2;conv=>whnf)
  ·have hil:i<c.states.length:=by omega
   obtain⟨hA,hN⟩:=wT h5 (Du p s c r i h4.big h4.wide)
   by_cases hf:nk p s c (r:Int) (i:Int)
   ·(refine oP (hA hf) ?_;conv=>whnf)
    repeat' ((first|refine nI ?_|refine aI ?_|refine tI ?_|refine fI ?_|fail);conv=>whnf)
    exact⟨(yes r i hrl hil hf).symm,rfl⟩
   ·(refine oP (hN hf) ?_;conv=>whnf)
    repeat' ((first|refine nI ?_|refine aI ?_|refine tI ?_|refine fI ?_|fail);conv=>whnf)
    refine⟨i+1,sI,⟨by omega,fun j hj=>?_⟩,by dsimp only;omega⟩
    by_cases e:j=i
    ·subst e;exact hf
    ·exact hb j (by omega)
  ·obtain rfl:i=c.states.length:=by omega
   repeat' ((first|refine nI ?_|refine aI ?_|refine tI ?_|refine fI ?_|fail);conv=>whnf)
   refine⟨r+1,sI,⟨by omega,fun a hal=>?_⟩,by dsimp only;omega⟩
   by_cases e:a=r
   ·subst e;exact hb
   ·exact ha a (by omega)
 ·obtain rfl:r=p.rules.length:=by omega
  rw[decide_eq_true (show ym p s c from ha)] at he
  exact⟨he.symm,rfl⟩
end Go.Proofs.YtekmminpfhacpaaGreatDoor
