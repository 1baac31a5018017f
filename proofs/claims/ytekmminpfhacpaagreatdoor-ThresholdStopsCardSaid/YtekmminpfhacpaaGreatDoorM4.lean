import Derived.Test.YtekmminpfhacpaaGreatDoorM3
set_option linter.unusedVariables false
set_option linter.unusedSimpArgs false
namespace Go.Proofs.YtekmminpfhacpaaGreatDoor
set_option maxRecDepth 100000
set_option maxHeartbeats 4000000
theorem rh:∀(l:List Int) (n:Nat),ky n l=decide (bB n l=some [])
 |[],n=>by
  cases n with
  |zero=>rfl
  |succ n=>rw[e8];simp[ky];omega
 |x::xs,0=>by rw[dS];simp[ky]
 |x::xs,n+1=>by
  rw[b7,ky]
  by_cases h0:x=0
  ·subst h0
   rw[if_neg (by omega),if_neg (by omega),if_pos rfl]
   have:=rh xs n
   rw[<-this];congr 1<;>omega
  ·by_cases h2:x=2
   ·subst h2
    rw[if_neg (by omega),if_neg (by omega),if_neg h0,if_pos rfl]
    have:=rh xs (n+2)
    rw[<-this];congr 1<;>omega
   ·rw[if_neg (by omega),if_pos ⟨h0,h2⟩,if_neg h0,if_neg h2];simp
theorem oy (l:List Int) (hl:l.length<=1000):ab Tryz.prog 233 [.sl 0 ao l] (fun u=>u= .bool (decide (shp l))):=by
 have:=zx l hl
 rw[show ky 1 l=decide (shp l) from rh l 1] at this
 exact this
def rj (p:an):Int:=if p.fault=1\/p.fault=2 then 1048576 else 0
structure VC (p:an) (s:aC) (c:ay):Prop where
 len:(c.states.length:Int)=io p s
 sta:iy c.states p.states.length
 cor:c.correct=s.n-s.f
 snl:c.sent.length=p.messages.length
 sen:iy c.sent 1048577
 fal:c.faulty.length=p.messages.length
 fau:iy c.faulty (rj p+1)
 va0:0<=c.value
 va1:c.value<1\/c.value<p.values.length
 tre:p.topology=4->(c.shape.length:Int)=s.n/\shp c.shape
 non:p.topology≠4->c.shape.length=0
noncomputable instance decVC (p:an) (s:aC) (c:ay):Decidable (VC p s c):=Classical.propDecidable _
noncomputable def km (p:an) (s:aC) (c:ay):Int:=if VC p s c then 0 else 1
theorem rk (l:List Int) (m:Int) (hl:l.length<=1000):ab Tryz.prog 183 [.sl 0 ao l, .int .i64 m] (fun u=>u= .bool (decide (iy l (m+1)))):=by
 refine ab.intro ac ae Tryz.func183 rfl (by decide) ?_;(conv=>whnf)
 refine aF.loopF ac ae (fun k:Nat=>k<=l.length/\∀j,j<k->0<=l.getD j 0/\l.getD j 0<m+1) (fun k=>[(9, .int .i64 (k:Int))]) (fun _=>[]) (fun k=>l.length-k) 0 ⟨by omega,fun j hj=>by omega⟩ ?_;conv=>whnf
 refine⟨sI,?_⟩
 rintro k ⟨hk,ha⟩
 conv=>whnf
 refine ag ?_ ?_<;>(intro h1;conv=>whnf)
 ·refine nI ?_
  rw[tN]
  by_cases h2:0<=l.getD k 0/\l.getD k 0<m+1
  ·conv=>whnf
   repeat' ((first|refine nI ?_|refine aI ?_|refine tI ?_|refine fI ?_|fail);conv=>whnf)
   refine⟨k+1,sI,⟨by omega,fun j hj=>?_⟩,by dsimp only;omega⟩
   by_cases e:j=k
   ·subst e;omega
   ·exact ha j (by omega)
  ·conv=>whnf
   repeat' ((first|refine nI ?_|refine aI ?_|refine uI ?_|refine vI ?_|refine dI ?_|refine dR ?_|refine dP ?_|refine ak rfl ?_|refine pI _ rfl ?_|refine ap _ rfl ?_|refine tI ?_|refine fI ?_|refine ag (fun _=>?_) (fun _=>?_))<;>conv=>whnf)
   all_goals exact⟨al (fun h=>h2 (h k (by omega))),rfl⟩
 ·exact⟨av (fun j hj=>ha j (by omega)),rfl⟩
theorem tx {l:List Int} (h:shp l):lk l≠[]:=by
 intro e
 have h1:=wk h
 have h2:(lk l).length=l.length:=by simp[lk]
 rw[e] at h2
 simp at h2
 omega
theorem iW (p:an) (s:aC) (c:ay) (hp:¬cp p) (hw:bh c=false) (hs:0<=s.n/\s.n<=1048576/\0<=s.f/\s.f<=1048576):ab Tryz.prog 95 [.agg (aB p), .agg (bv s), .agg (bd c)] (fun u=>u= .int .i64 (km p s c)):=by
 have hle:=aO hp
 have hc:c.shape.length<=100/\c.states.length<=100/\c.sent.length<=100/\c.faulty.length<=100:=by
  unfold bh at hw
  simp at hw
  omega
 have bad:¬VC p s c->km p s c=1:=fun h=>by rw[km,if_neg h]
 refine ab.intro ac ae Tryz.func95 rfl (by decide) ?_;(conv=>whnf)
 refine ak rfl ?_
 conv=>whnf
 refine ak rfl ?_
 conv=>whnf
 refine ak rfl ?_
 conv=>whnf
 have hwl:(rj p=1048576/\(p.fault=1\/p.fault=2))\/(rj p=0/\¬(p.fault=1\/p.fault=2)):=by
  unfold rj
  by_cases h:p.fault=1\/p.fault=2
  ·rw[if_pos h];exact .inl ⟨rfl,h⟩
  ·rw[if_neg h];exact .inr ⟨rfl,h⟩
 have ht4:p.topology=4\/p.topology≠4:=by omega
 rcases ht4 with ht|ht<;>rcases hwl with ⟨hwl,hfa⟩|⟨hwl,hfa⟩
 all_goals
  repeat' (first|(refine tI ?_;conv=>whnf)|(refine fI ?_;conv=>whnf)|(refine ag ?_ ?_<;>(intro _;conv=>whnf)))
 all_goals
  refine dI ?_
  conv=>whnf
  (refine oC (tv p s hs) ?_;conv=>whnf)
  refine ag ?_ ?_<;>(intro h1;conv=>whnf)
  case refine_2=>
   repeat' ((first|refine nI ?_|refine aI ?_|refine tI ?_|refine fI ?_|fail);conv=>whnf)
   exact⟨ah (bad (fun h=>h1 h.len)).symm,rfl⟩
  repeat' ((first|refine nI ?_|refine aI ?_|refine tI ?_|refine fI ?_|fail);conv=>whnf)
  refine dD (rk c.states _ (by omega)) (fun _=>?_) (fun _=>?_)<;>(conv=>whnf)
  case refine_2=>
   rename_i h
   repeat' ((first|refine nI ?_|refine aI ?_|refine tI ?_|refine fI ?_|fail);conv=>whnf)
   exact⟨ah (bad (fun hh=>h (by have:=hh.sta;rwa [show(p.states.length:Int)-1+1=p.states.length by omega]))).symm,rfl⟩
  rename_i h2
  rw[show(p.states.length:Int)-1+1=p.states.length by omega] at h2
  repeat' ((first|refine nI ?_|refine aI ?_|refine tI ?_|refine fI ?_|fail);conv=>whnf)
  refine ag ?_ ?_<;>(intro h3;conv=>whnf)
  case refine_2=>
   repeat' ((first|refine nI ?_|refine aI ?_|refine tI ?_|refine fI ?_|fail);conv=>whnf)
   exact⟨ah (bad (fun h=>h3 h.cor)).symm,rfl⟩
  refine ag ?_ ?_<;>(intro h4;conv=>whnf)
  case refine_2=>
   repeat' ((first|refine nI ?_|refine aI ?_|refine tI ?_|refine fI ?_|fail);conv=>whnf)
   exact⟨ah (bad (fun h=>h4 (by have:=h.snl;omega))).symm,rfl⟩
  refine dD (rk c.sent _ (by omega)) (fun _=>?_) (fun _=>?_)<;>(conv=>whnf)
  case refine_2=>
   rename_i h
   repeat' ((first|refine nI ?_|refine aI ?_|refine tI ?_|refine fI ?_|fail);conv=>whnf)
   exact⟨ah (bad (fun hh=>h hh.sen)).symm,rfl⟩
  rename_i h5
  refine ag ?_ ?_<;>(intro h6;conv=>whnf)
  case refine_2=>
   repeat' ((first|refine nI ?_|refine aI ?_|refine tI ?_|refine fI ?_|fail);conv=>whnf)
   exact⟨ah (bad (fun h=>h6 (by have:=h.fal;omega))).symm,rfl⟩
  refine dD (rk c.faulty _ (by omega)) (fun _=>?_) (fun _=>?_)<;>(conv=>whnf)
  case refine_2=>
   rename_i h
   repeat' ((first|refine nI ?_|refine aI ?_|refine tI ?_|refine fI ?_|fail);conv=>whnf)
   exact⟨ah (bad (fun hh=>h (by have:=hh.fau;rwa [hwl] at this))).symm,rfl⟩
  rename_i h7
  refine ag ?_ ?_<;>(intro h8;conv=>whnf)
  case refine_2=>
   repeat' ((first|refine nI ?_|refine aI ?_|refine tI ?_|refine fI ?_|fail);conv=>whnf)
   exact⟨ah (bad (fun h=>h8 h.va0)).symm,rfl⟩
  refine ag ?_ ?_<;>(intro h9;conv=>whnf)
  case refine_2=>
   repeat' ((first|refine nI ?_|refine aI ?_|refine tI ?_|refine fI ?_|fail);conv=>whnf)
   exact⟨ah (bad (fun h=>h9 (by have:=h.va1;split<;>omega))).symm,rfl⟩
  have hva1:c.value<1\/c.value<p.values.length:=by split at h9<;>omega
  repeat' ((first|refine nI ?_|refine aI ?_|refine tI ?_|refine fI ?_|fail);conv=>whnf)
  refine ag ?_ ?_<;>(intro h10;conv=>whnf)
 all_goals try first
  |exact⟨ah (bad (fun h=>by have:=h.tre ht;omega)).symm,rfl⟩
  |exact⟨ah (bad (fun h=>by have:=h.non ht;omega)).symm,rfl⟩
  |exact⟨ah (by rw[km,if_pos ⟨h1,h2,h3,by omega,h5,by omega,by rw[hwl];exact h7,h8,hva1,fun h=>absurd h ht,fun _=>by omega⟩]),rfl⟩
  |skip
 all_goals
  have hE:=wm c.shape (by omega)
  by_cases hsh:shp c.shape
  ·rw[if_pos hsh] at hE
   (refine oP (hE) ?_;conv=>whnf)
   refine cz (tx hsh) ?_
   conv=>whnf
   exact⟨ah (by rw[km,if_pos ⟨h1,h2,h3,by omega,h5,by omega,by rw[hwl];exact h7,h8,hva1,fun _=>⟨h10,hsh⟩,fun h=>absurd ht h⟩]),rfl⟩
  ·rw[if_neg hsh] at hE
   (refine oP (hE) ?_;conv=>whnf)
   exact⟨ah (bad (fun h=>hsh (h.tre ht).2)).symm,rfl⟩
noncomputable def bW (p:an) (s:aC) (c:ay):Int:=if aJ p s≠0 then aJ p s else km p s c
theorem rl (p:an) (s:aC) (c:ay) (hp:¬cp p) (hw:bh c=false):ab Tryz.prog 151 [.agg (aB p), .agg (bv s), .agg (bd c)] (fun u=>u= .int .i64 (bW p s c)):=by
 refine ab.intro ac ae Tryz.func151 rfl (by decide) ?_;(conv=>whnf)
 refine ak rfl ?_
 conv=>whnf
 refine ak rfl ?_
 conv=>whnf
 refine ak rfl ?_
 conv=>whnf
 (refine oP (kC p s hp) ?_;conv=>whnf)
 refine ag ?_ ?_<;>(intro h1;conv=>whnf)
 ·exact⟨ah (by rw[bW,if_pos h1]),rfl⟩
 ·have:=c8 (p:=p) (s:=s) (by omega)
  (refine oP (iW p s c hp hw (by omega)) ?_;conv=>whnf)
  exact⟨ah (by rw[bW,if_neg h1]),rfl⟩
theorem fk (a b c:Int):ab Tryz.prog 232 [.int .i64 a, .int .i64 b, .int .i64 c] (fun u=>u= .bool (decide (b<=a/\a<=c))):=by
 refine ab.intro ac ae Tryz.func232 rfl (by decide) ?_;(conv=>whnf)
 repeat' ((first|refine nI ?_|refine aI ?_|refine uI ?_|refine vI ?_|refine dI ?_|refine dR ?_|refine dP ?_|refine ak rfl ?_|refine pI _ rfl ?_|refine ap _ rfl ?_|refine tI ?_|refine fI ?_|refine ag (fun _=>?_) (fun _=>?_))<;>conv=>whnf)
 all_goals first
  |exact⟨av (by omega),rfl⟩
  |exact⟨al (by omega),rfl⟩
theorem tz (l:List Int) (n:Int) (hl:l.length<=1000):ab Tryz.prog 230 [.sl 0 ao l, .int .i64 n] (fun u=>u= .bool (decide ((l.length:Int)=n/\iy l 1048577))):=by
 refine ab.intro ac ae Tryz.func230 rfl (by decide) ?_;(conv=>whnf)
 refine ag ?_ ?_<;>(intro h0;conv=>whnf)
 ·exact⟨al (fun h=>h0 h.1),rfl⟩
 refine aF.loopF ac ae (fun k:Nat=>k<=l.length/\∀j,j<k->0<=l.getD j 0/\l.getD j 0<1048577) (fun k=>[(5, .int .i64 (k:Int))]) (fun _=>[]) (fun k=>l.length-k) 0 ⟨by omega,fun j hj=>by omega⟩ ?_;conv=>whnf
 refine⟨sI,?_⟩
 rintro k ⟨hk,ha⟩
 conv=>whnf
 refine ag ?_ ?_<;>(intro h1;conv=>whnf)
 ·refine nI ?_
  rw[tN]
  conv=>whnf
  refine dC (fk _ _ _) (fun _=>?_) (fun _=>?_)<;>(conv=>whnf)
  ·rename_i h2
   repeat' ((first|refine nI ?_|refine aI ?_|refine tI ?_|refine fI ?_|fail);conv=>whnf)
   refine⟨k+1,sI,⟨by omega,fun j hj=>?_⟩,by dsimp only;omega⟩
   by_cases e:j=k
   ·subst e;omega
   ·exact ha j (by omega)
  ·rename_i h2
   exact⟨al (fun h=>h2 (by have:=h.2 k (by omega);omega)),rfl⟩
 ·exact⟨av ⟨by omega,fun j hj=>ha j (by omega)⟩,rfl⟩
theorem CH (p:an) (l:List Int) (hl:l.length<=1000) (hp:p.states.length<=1000):ab Tryz.prog 229 [.agg (aB p), .sl 0 ao l] (fun u=>u= .bool (decide (iy l p.states.length))):=by
 refine ab.intro ac ae Tryz.func229 rfl (by decide) ?_;(conv=>whnf)
 refine ak rfl ?_
 conv=>whnf
 refine aF.loopF ac ae (fun k:Nat=>k<=l.length/\∀j,j<k->0<=l.getD j 0/\l.getD j 0<p.states.length) (fun k=>[(5, .int .i64 (k:Int))]) (fun _=>[]) (fun k=>l.length-k) 0 ⟨by omega,fun j hj=>by omega⟩ ?_;conv=>whnf
 refine⟨sI,?_⟩
 rintro k ⟨hk,ha⟩
 conv=>whnf
 refine ag ?_ ?_<;>(intro h1;conv=>whnf)
 ·refine dI ?_
  conv=>whnf
  refine nI ?_
  rw[tN]
  conv=>whnf
  repeat' ((first|refine nI ?_|refine aI ?_|refine tI ?_|refine fI ?_|fail);conv=>whnf)
  refine dD (fk _ _ _) (fun _=>?_) (fun _=>?_)<;>(conv=>whnf)
  ·rename_i h2
   repeat' ((first|refine nI ?_|refine aI ?_|refine tI ?_|refine fI ?_|fail);conv=>whnf)
   refine⟨k+1,sI,⟨by omega,fun j hj=>?_⟩,by dsimp only;omega⟩
   by_cases e:j=k
   ·subst e;omega
   ·exact ha j (by omega)
  ·rename_i h2
   exact⟨al (fun h=>h2 (by have:=h k (by omega);omega)),rfl⟩
 ·exact⟨av (fun j hj=>ha j (by omega)),rfl⟩
theorem zZ (p:an):ab Tryz.prog 231 [.agg (aB p)] (fun u=>u= .bool (decide (p.fault=1\/p.fault=2))):=by
 refine ab.intro ac ae Tryz.func231 rfl (by decide) ?_;(conv=>whnf)
 refine ak rfl ?_
 conv=>whnf
 repeat' ((first|refine nI ?_|refine aI ?_|refine uI ?_|refine vI ?_|refine dI ?_|refine dR ?_|refine dP ?_|refine ak rfl ?_|refine pI _ rfl ?_|refine ap _ rfl ?_|refine tI ?_|refine fI ?_|refine ag (fun _=>?_) (fun _=>?_))<;>conv=>whnf)
 all_goals first
  |exact⟨av (by omega),rfl⟩
  |exact⟨al (by omega),rfl⟩
theorem ly (p:an) (s:aC) (c:ay) (hp:¬cp p) (hw:bh c=false) (hs:0<=s.n/\s.n<=1048576/\0<=s.f/\s.f<=1048576):ab Tryz.prog 145 [.agg (aB p), .agg (bv s), .agg (bd c)] (fun u=>u= .bool (decide (VC p s c))):=by
 have hle:=aO hp
 have hc:c.shape.length<=100/\c.states.length<=100/\c.sent.length<=100/\c.faulty.length<=100:=by
  unfold bh at hw
  simp at hw
  omega
 have hwl:(rj p=1048576/\(p.fault=1\/p.fault=2))\/(rj p=0/\¬(p.fault=1\/p.fault=2)):=by
  unfold rj
  by_cases h:p.fault=1\/p.fault=2
  ·rw[if_pos h];exact .inl ⟨rfl,h⟩
  ·rw[if_neg h];exact .inr ⟨rfl,h⟩
 refine ab.intro ac ae Tryz.func145 rfl (by decide) ?_;(conv=>whnf)
 refine ak rfl ?_
 conv=>whnf
 refine ak rfl ?_
 conv=>whnf
 refine ak rfl ?_
 conv=>whnf
 refine dI ?_
 conv=>whnf
 (refine oC (tw p s hs) ?_;conv=>whnf)
 refine ag ?_ ?_<;>(intro h1;conv=>whnf)
 ·exact⟨al (fun h=>h1 h.len),rfl⟩
 refine dD (CH p c.states (by omega) (by omega)) (fun _=>?_) (fun _=>?_)<;>(conv=>whnf)
 case refine_2=>rename_i h;exact⟨al (fun hh=>h hh.sta),rfl⟩
 rename_i h2
 repeat' ((first|refine nI ?_|refine aI ?_|refine tI ?_|refine fI ?_|fail);conv=>whnf)
 refine ag ?_ ?_<;>(intro h3;conv=>whnf)
 ·exact⟨al (fun h=>h3 h.cor),rfl⟩
 refine dD (tz c.sent _ (by omega)) (fun _=>?_) (fun _=>?_)<;>(conv=>whnf)
 case refine_2=>rename_i h;exact⟨al (fun hh=>h ⟨by have:=hh.snl;omega,hh.sen⟩),rfl⟩
 rename_i h4
 refine dD (tz c.faulty _ (by omega)) (fun _=>?_) (fun _=>?_)<;>(conv=>whnf)
 case refine_2=>
  rename_i h
  refine⟨al (fun hh=>h ⟨by have:=hh.fal;omega,fun j hj=>?_⟩),rfl⟩
  have:=hh.fau j hj
  omega
 rename_i h5
 refine aF.loopF ac ae (fun k:Nat=>k<=c.faulty.length/\∀j,j<k->c.faulty.getD j 0≠0->(p.fault=1\/p.fault=2)) (fun k=>[(7, .int .i64 (k:Int))]) (fun _=>[]) (fun k=>c.faulty.length-k) 0 ⟨by omega,fun j hj=>by omega⟩ ?_;conv=>whnf
 refine⟨sI,?_⟩
 rintro k ⟨hk,ha⟩
 conv=>whnf
 refine ag ?_ ?_<;>(intro h6;conv=>whnf)
 ·refine nI ?_
  rw[tN]
  conv=>whnf
  refine ag ?_ ?_<;>(intro h7;conv=>whnf)
  ·refine dC (zZ p) (fun _=>?_) (fun _=>?_)<;>(conv=>whnf)
   ·rename_i h8
    repeat' ((first|refine nI ?_|refine aI ?_|refine tI ?_|refine fI ?_|fail);conv=>whnf)
    exact⟨k+1,sI,⟨by omega,fun j hj _=>h8⟩,by dsimp only;omega⟩
   ·rename_i h8
    refine⟨al (fun hh=>?_),rfl⟩
    have h9:=hh.fau k (by omega)
    omega
  ·repeat' ((first|refine nI ?_|refine aI ?_|refine tI ?_|refine fI ?_|fail);conv=>whnf)
   refine⟨k+1,sI,⟨by omega,fun j hj h8=>?_⟩,by dsimp only;omega⟩
   by_cases e:j=k
   ·subst e;exact absurd h8 h7
   ·exact ha j (by omega) h8
 have hfau:iy c.faulty (rj p+1):=fun j hj=>by
  have a1:=h5.2 j hj
  have a2:=ha j (by omega)
  omega
 repeat' ((first|refine nI ?_|refine aI ?_|refine tI ?_|refine fI ?_|fail);conv=>whnf)
 refine dC (fk _ _ _) (fun _=>?_) (fun _=>?_)<;>(conv=>whnf)
 case refine_2=>
  rename_i h
  refine⟨al (fun hh=>h ⟨hh.va0,?_⟩),rfl⟩
  have:=hh.va1
  split<;>omega
 rename_i h9
 have hva1:c.value<1\/c.value<p.values.length:=by
  have:=h9.2
  split at this<;>omega
 refine ag ?_ ?_<;>(intro ht;conv=>whnf)
 ·refine ag ?_ ?_<;>(intro h10;conv=>whnf)
  ·refine dC (oy c.shape (by omega)) (fun _=>?_) (fun _=>?_)<;>(conv=>whnf)
   ·rename_i hsh
    exact⟨av ⟨by omega,h2,by omega,by omega,h4.2,by omega,hfau,h9.1,hva1,fun _=>⟨h10,hsh⟩,fun h=>absurd ht h⟩,rfl⟩
   ·rename_i hsh
    exact⟨al (fun h=>hsh (h.tre ht).2),rfl⟩
  ·exact⟨al (fun h=>h10 (h.tre ht).1),rfl⟩
 ·refine ag ?_ ?_<;>(intro h10;conv=>whnf)
  ·exact⟨av ⟨by omega,h2,by omega,by omega,h4.2,by omega,hfau,h9.1,hva1,fun h=>absurd h ht,fun _=>by omega⟩,rfl⟩
  ·exact⟨al (fun h=>h10 (by have:=h.non ht;omega)),rfl⟩
theorem fS (p:an) (s:aC) (c:ay) (hp:¬cp p) (hw:bh c=false):ab Tryz.prog 169 [.agg (aB p), .agg (bv s), .agg (bd c)] (fun u=>u= .int .i64 (bW p s c)):=by
 refine ab.intro ac ae Tryz.func169 rfl (by decide) ?_;(conv=>whnf)
 refine ak rfl ?_
 conv=>whnf
 refine ak rfl ?_
 conv=>whnf
 refine ak rfl ?_
 conv=>whnf
 (refine oP (zY p s hp) ?_;conv=>whnf)
 refine ag ?_ ?_<;>(intro h1;conv=>whnf)
 ·exact⟨ah (by rw[bW,if_pos h1]),rfl⟩
 ·have:=c8 (p:=p) (s:=s) (by omega)
  refine dC (ly p s c hp hw (by omega)) (fun _=>?_) (fun _=>?_)<;>(conv=>whnf)
  ·rename_i h;exact⟨ah (by rw[bW,if_neg h1,km,if_pos h]),rfl⟩
  ·rename_i h;exact⟨ah (by rw[bW,if_neg h1,km,if_neg h]),rfl⟩
theorem f7 (l:List Int) (hl:l.length<=1000000):ab Tryz.prog 272 [.sl 0 ao l] (fun u=>u= .sl 0 ao l):=by
 refine ab.intro ac ae Tryz.func272 rfl (by decide) ?_;(conv=>whnf)
 refine bD 0 ao [] rfl ?_
 conv=>whnf
 refine bQ _ rfl (by simp only[List.length_nil];omega) ?_
 conv=>whnf
 exact⟨rfl,rfl⟩
theorem GT (c:ay) (hw:bh c=false):ab Tryz.prog 234 [.agg (bd c)] (fun u=>u= .agg (bd c)):=by
 have hc:c.shape.length<=100/\c.states.length<=100/\c.sent.length<=100/\c.faulty.length<=100:=by
  unfold bh at hw
  simp at hw
  omega
 refine ab.intro ac ae Tryz.func234 rfl (by decide) ?_;(conv=>whnf)
 refine ak rfl ?_
 conv=>whnf
 refine dP ?_
 conv=>whnf
 (refine oC (f7 c.shape (by omega)) ?_;conv=>whnf)
 (refine oC (f7 c.states (by omega)) ?_;conv=>whnf)
 (refine oC (f7 c.sent (by omega)) ?_;conv=>whnf)
 (refine oC (f7 c.faulty (by omega)) ?_;conv=>whnf)
 exact⟨rfl,rfl⟩
def eO (r:Sh):Sh:=.sl (.int .nil) r
def rm:Sh:=.int (.int (.int (.int .nil)))
def rn:Sh:=.int (.int (.int (.int (.int (.int .nil)))))
def mu:Sh:=.str (.int (.int (.int (.int (.int (eO (.sl rn (eO (eO (.int (.int (eO (.int (eO (eO (eO (.int .nil)))))))))))))))))
def CI:Sh:=.int (.int (.int .nil))
theorem GU:kz Tryz.prog 9 59=some CI:=by kernel_rfl
def ip (l:List (eC (.int .nil))):List Int:=l.map (fun x=>x.1)
def z3 (l:List (eC (.str .nil))):List ByteArray:=l.map (fun x=>x.1)
def wu:eC rm->kK
 |(a,b,c,d,_)=>⟨a,b,c,d⟩
def wv:eC rn->dB
 |(a,b,c,d,e,f,_)=>⟨a,b,⟨c,d,e,f⟩⟩
def ko:eC mu->bC
 |(a,b,c,d,e,f,g,h,i,j,k,l,m,n,o,p,q,r,_)=>⟨a,b,c,d,e,f,ip g,List.map wv h,ip i,ip j,k,l,ip m,n,ip o,ip p,ip q,r⟩
section
variable {S:ai}
theorem EW (y:eC rm):r9 S (bg rm y) (bT (wu y)):=by
 obtain⟨a,b,c,d,⟨⟩⟩:=y
 exact⟨Cv.refl _ _,Cv.refl _ _,Cv.refl _ _,Cv.refl _ _,trivial⟩
theorem EX (y:eC rn):r9 S (bg rn y) (bL (wv y)):=by
 obtain⟨a,b,c,d,e,f,⟨⟩⟩:=y
 exact⟨Cv.refl _ _,Cv.refl _ _,Cv.refl _ _,Cv.refl _ _,Cv.refl _ _,Cv.refl _ _,trivial⟩
theorem CJ (l:List (eC rm)):Cv S (.sl (e7 rm) (bg rm) l) (.sl eJ bT (l.map wu)):=
 Cv.sl (d:=e7 rm) (enc:=bg rm) eJ bT wu fun y _=>⟨EW y,rfl⟩
theorem CK (l:List (eC rn)):Cv S (.sl (e7 rn) (bg rn) l) (.sl aA bL (l.map wv)):=
 Cv.sl (d:=e7 rn) (enc:=bg rn) aA bL wv fun y _=>⟨EX y,rfl⟩
theorem EY (y:eC mu):r9 S (bg mu y) (ee (ko y)):=by
 obtain⟨a,b,c,d,e,f,g,h,i,j,k,l,m,n,o,p,q,r,⟨⟩⟩:=y
 exact⟨Cv.refl _ _,Cv.refl _ _,Cv.refl _ _,Cv.refl _ _,Cv.refl _ _,Cv.refl _ _,Cv.ints g,CK h,Cv.ints i,Cv.ints j,Cv.refl _ _,Cv.refl _ _,Cv.ints m,Cv.refl _ _,Cv.ints o,Cv.ints p,Cv.ints q,Cv.refl _ _,trivial⟩
theorem CL (l:List (eC mu)):Cv S (.sl (e7 mu) (bg mu) l) (.sl aq ee (l.map ko)):=
 Cv.sl (d:=e7 mu) (enc:=bg mu) aq ee ko fun y _=>⟨EY y,rfl⟩
def Ed:eC CI->aC
 |(a,b,c,_)=>⟨a,b,c⟩
theorem EZ (y:eC CI):r9 S (bg CI y) (bv (Ed y)):=by
 obtain⟨a,b,c,⟨⟩⟩:=y
 exact⟨Cv.refl _ _,Cv.refl _ _,Cv.refl _ _,trivial⟩
end
end Go.Proofs.YtekmminpfhacpaaGreatDoor
