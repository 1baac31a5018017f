import Derived.Test.YtekmminpfhacpaaGreatDoorW0
import Derived.Test.YtekmminpfhacpaaGreatDoorA1
set_option linter.unusedVariables false
set_option linter.unusedSimpArgs false
namespace Go.Proofs.YtekmminpfhacpaaGreatDoor
set_option maxRecDepth 100000
set_option maxHeartbeats 8000000
def MJ (c:aD):Prop:=c.shape.length<=140737488355328/\c.states.length<=140737488355328/\c.sent.length<=140737488355328/\c.faulty.length<=140737488355328
theorem t3 (p:ap) (s:aN) (hp:qz p):ab Tryz.prog 94 [.agg (dg p), .agg (gr s)] (fun u=>u= .int .i64 (dV p s)):=by
 refine ab.intro ae ag Tryz.func94 rfl (by decide) ?_;(conv=>whnf)
 refine ar rfl ?_
 conv=>whnf
 refine ar rfl ?_
 conv=>whnf
 (refine oP (fN p hp) ?_;conv=>whnf)
 refine ai ?_ ?_<;>(intro h1;conv=>whnf)
 ·(refine oP (fN p hp) ?_;conv=>whnf)
  exact⟨aq (by rw[dV,if_pos h1]),rfl⟩
 have h1:aL p=0:=by omega
 refine dC (rn p s (gZ h1) h1) (fun _=>?_) (fun _=>?_)<;>(conv=>whnf)
 ·rename_i h2
  refine ai ?_ ?_<;>(intro h3;conv=>whnf)
  ·exact⟨aq (by rw[dV,if_neg (by omega),if_neg (fun h=>h h2),if_pos h3]),rfl⟩
  ·exact⟨aq (by rw[dV,if_neg (by omega),if_neg (fun h=>h h2),if_neg h3]),rfl⟩
 ·rename_i h2
  exact⟨aq (by rw[dV,if_neg (by omega),if_pos h2]),rfl⟩
theorem xx (l:List Int) (m:Int) (hl:l.length<=140737488355328):ab Tryz.prog 183 [.sl 0 ak l, .int .i64 m] (fun u=>u= .bool (decide (qA l (m+1)))):=by
 refine ab.intro ae ag Tryz.func183 rfl (by decide) ?_;(conv=>whnf)
 refine a8.loopF ae ag (fun k:Nat=>k<=l.length/\∀j,j<k->0<=l.getD j 0/\l.getD j 0<m+1) (fun k=>[(9, .int .i64 (k:Int))]) (fun _=>[]) (fun k=>l.length-k) 0 ⟨by omega,fun j hj=>by omega⟩ ?_;conv=>whnf
 refine⟨sI,?_⟩
 rintro k ⟨hk,ha⟩
 conv=>whnf
 refine ai ?_ ?_<;>(intro h1;conv=>whnf)
 ·refine nI ?_
  rw[tN]
  by_cases h2:0<=l.getD k 0/\l.getD k 0<m+1
  ·conv=>whnf
   repeat' ((first|refine nI ?_|refine aI ?_|refine tI ?_|refine fI ?_|fail);conv=>whnf)
   refine⟨k+1,sI,⟨by omega,fun j hj=>?_⟩,by dsimp only;omega⟩
   by_cases e:j=k
   ·subst e;omega
   ·exact ha j (by omega)
  ·conv=>whnf
   repeat' ((first|refine nI ?_|refine aI ?_|refine uI ?_|refine vI ?_|refine dI ?_|refine dR ?_|refine dP ?_|refine ar rfl ?_|refine pI _ rfl ?_|refine an _ rfl ?_|refine tI ?_|refine fI ?_|refine ai (fun _=>?_) (fun _=>?_))<;>conv=>whnf)
   all_goals exact⟨aC (fun h=>h2 (h k (by omega))),rfl⟩
 ·exact⟨bk (fun j hj=>ha j (by omega)),rfl⟩
theorem pO (p:ap) (s:aN) (c:aD) (hp:¬jZ p) (hc0:MJ c) (hs0:0<=s.n/\s.n<=8/\0<=s.f/\s.f<=8):ab Tryz.prog 95 [.agg (dg p), .agg (gr s), .agg (cy c)] (fun u=>u= .int .i64 (wU p s c)):=by
 have hle:=eX hp
 have hc:=hc0
 unfold MJ at hc
 have hs:0<=s.n/\s.n<=1048576/\0<=s.f/\s.f<=1048576:=by omega
 have bad:¬VC p s c->wU p s c=1:=fun h=>by rw[wU,if_neg h]
 refine ab.intro ae ag Tryz.func95 rfl (by decide) ?_;(conv=>whnf)
 refine ar rfl ?_
 conv=>whnf
 refine ar rfl ?_
 conv=>whnf
 refine ar rfl ?_
 conv=>whnf
 have hwl:(Bh p=1048576/\(p.fault=1\/p.fault=2))\/(Bh p=0/\¬(p.fault=1\/p.fault=2)):=by
  unfold Bh
  by_cases h:p.fault=1\/p.fault=2
  ·rw[if_pos h];exact .inl ⟨rfl,h⟩
  ·rw[if_neg h];exact .inr ⟨rfl,h⟩
 have ht4:p.topology=4\/p.topology≠4:=by omega
 rcases ht4 with ht|ht<;>rcases hwl with ⟨hwl,hfa⟩|⟨hwl,hfa⟩
 all_goals
  repeat' (first|(refine tI ?_;conv=>whnf)|(refine fI ?_;conv=>whnf)|(refine ai ?_ ?_<;>(intro _;conv=>whnf)))
 all_goals
  refine dI ?_
  conv=>whnf
  (refine oC (y5 p s hs) ?_;conv=>whnf)
  refine ai ?_ ?_<;>(intro h1;conv=>whnf)
  case refine_2=>
   repeat' ((first|refine nI ?_|refine aI ?_|refine tI ?_|refine fI ?_|fail);conv=>whnf)
   exact⟨aq (bad (fun h=>h1 h.len)).symm,rfl⟩
  repeat' ((first|refine nI ?_|refine aI ?_|refine tI ?_|refine fI ?_|fail);conv=>whnf)
  refine dD (xx c.states _ (by omega)) (fun _=>?_) (fun _=>?_)<;>(conv=>whnf)
  case refine_2=>
   rename_i h
   repeat' ((first|refine nI ?_|refine aI ?_|refine tI ?_|refine fI ?_|fail);conv=>whnf)
   exact⟨aq (bad (fun hh=>h (by have:=hh.sta;rwa [show(p.states.length:Int)-1+1=p.states.length by omega]))).symm,rfl⟩
  rename_i h2
  rw[show(p.states.length:Int)-1+1=p.states.length by omega] at h2
  repeat' ((first|refine nI ?_|refine aI ?_|refine tI ?_|refine fI ?_|fail);conv=>whnf)
  refine ai ?_ ?_<;>(intro h3;conv=>whnf)
  case refine_2=>
   repeat' ((first|refine nI ?_|refine aI ?_|refine tI ?_|refine fI ?_|fail);conv=>whnf)
   exact⟨aq (bad (fun h=>h3 h.cor)).symm,rfl⟩
  refine ai ?_ ?_<;>(intro h4;conv=>whnf)
  case refine_2=>
   repeat' ((first|refine nI ?_|refine aI ?_|refine tI ?_|refine fI ?_|fail);conv=>whnf)
   exact⟨aq (bad (fun h=>h4 (by have:=h.snl;omega))).symm,rfl⟩
  refine dD (xx c.sent _ (by omega)) (fun _=>?_) (fun _=>?_)<;>(conv=>whnf)
  case refine_2=>
   rename_i h
   repeat' ((first|refine nI ?_|refine aI ?_|refine tI ?_|refine fI ?_|fail);conv=>whnf)
   exact⟨aq (bad (fun hh=>h hh.sen)).symm,rfl⟩
  rename_i h5
  refine ai ?_ ?_<;>(intro h6;conv=>whnf)
  case refine_2=>
   repeat' ((first|refine nI ?_|refine aI ?_|refine tI ?_|refine fI ?_|fail);conv=>whnf)
   exact⟨aq (bad (fun h=>h6 (by have:=h.fal;omega))).symm,rfl⟩
  refine dD (xx c.faulty _ (by omega)) (fun _=>?_) (fun _=>?_)<;>(conv=>whnf)
  case refine_2=>
   rename_i h
   repeat' ((first|refine nI ?_|refine aI ?_|refine tI ?_|refine fI ?_|fail);conv=>whnf)
   exact⟨aq (bad (fun hh=>h (by have:=hh.fau;rwa [hwl] at this))).symm,rfl⟩
  rename_i h7
  refine ai ?_ ?_<;>(intro h8;conv=>whnf)
  case refine_2=>
   repeat' ((first|refine nI ?_|refine aI ?_|refine tI ?_|refine fI ?_|fail);conv=>whnf)
   exact⟨aq (bad (fun h=>h8 h.va0)).symm,rfl⟩
  refine ai ?_ ?_<;>(intro h9;conv=>whnf)
  case refine_2=>
   repeat' ((first|refine nI ?_|refine aI ?_|refine tI ?_|refine fI ?_|fail);conv=>whnf)
   exact⟨aq (bad (fun h=>h9 (by have:=h.va1;split<;>omega))).symm,rfl⟩
  have hva1:c.value<1\/c.value<p.values.length:=by split at h9<;>omega
  repeat' ((first|refine nI ?_|refine aI ?_|refine tI ?_|refine fI ?_|fail);conv=>whnf)
  refine ai ?_ ?_<;>(intro h10;conv=>whnf)
 all_goals try first
  |exact⟨aq (bad (fun h=>by have:=h.tre ht;omega)).symm,rfl⟩
  |exact⟨aq (bad (fun h=>by have:=h.non ht;omega)).symm,rfl⟩
  |exact⟨aq (by rw[wU,if_pos ⟨h1,h2,h3,by omega,h5,by omega,by rw[hwl];exact h7,h8,hva1,fun h=>absurd h ht,fun _=>by omega⟩]),rfl⟩
  |skip
 all_goals
  have hE:=CH c.shape (by omega)
  by_cases hsh:shp c.shape
  ·rw[if_pos hsh] at hE
   (refine oP (hE) ?_;conv=>whnf)
   refine bp (y6 hsh) ?_
   conv=>whnf
   exact⟨aq (by rw[wU,if_pos ⟨h1,h2,h3,by omega,h5,by omega,by rw[hwl];exact h7,h8,hva1,fun _=>⟨h10,hsh⟩,fun h=>absurd ht h⟩]),rfl⟩
  ·rw[if_neg hsh] at hE
   (refine oP (hE) ?_;conv=>whnf)
   exact⟨aq (bad (fun h=>hsh (h.tre ht).2)).symm,rfl⟩
theorem xy (p:ap) (s:aN) (c:aD) (hp:qz p) (hc:MJ c):ab Tryz.prog 151 [.agg (dg p), .agg (gr s), .agg (cy c)] (fun u=>u= .int .i64 (du p s c)):=by
 refine ab.intro ae ag Tryz.func151 rfl (by decide) ?_;(conv=>whnf)
 refine ar rfl ?_
 conv=>whnf
 refine ar rfl ?_
 conv=>whnf
 refine ar rfl ?_
 conv=>whnf
 (refine oP (t3 p s hp) ?_;conv=>whnf)
 refine ai ?_ ?_<;>(intro h1;conv=>whnf)
 ·exact⟨aq (by rw[du,if_pos h1]),rfl⟩
 ·have:=kv (p:=p) (s:=s) (by omega)
  (refine oP (pO p s c (gZ this.1) hc (by omega)) ?_;conv=>whnf)
  exact⟨aq (by rw[du,if_neg h1]),rfl⟩
theorem xz {p:ap} {s:aN} {c:aD} (hz:dV p s=0) (h:VC p s c):dA c=false:=by
 have h2:=kv (p:=p) (s:=s) hz
 have hle:=eX (gZ h2.1)
 have hm:iy p s<=s.n:=by unfold iy;split<;>omega
 have h3:=h.len
 have h4:=h.snl
 have h5:=h.fal
 have h6:c.shape.length<=8:=by
  by_cases ht:p.topology=4
  ·have:=(h.tre ht).1;omega
  ·have:=h.non ht;omega
 unfold dA
 simp only[Bool.or_eq_false_iff,decide_eq_false_iff_not]
 omega
theorem OO {p:ap} {s:aN} {c:aD} (h:du p s c=0):fp p s c:=by
 have hz:dV p s=0:=by
  unfold du at h
  by_cases h1:dV p s≠0
  ·rw[if_pos h1] at h;exact absurd h h1
  ·exact Classical.not_not.1 h1
 have hv:VC p s c:=by
  unfold du at h
  rw[if_neg (fun x=>x hz)] at h
  refine Classical.byContradiction fun hn=>?_
  rw[wU,if_neg hn] at h
  omega
 exact fp.of (gZ (kv hz).1) (xz hz hv) h
set_option maxHeartbeats 16000000
theorem Ij {p:ap} (ht:io p) (hv:aL p=0) {ri:Int} (hr:0<=ri/\ri<p.rules.length) (i:Int):K1 p ⟨ri,i,-1⟩:=by
 have hR:=(dK hv (i:=ri.toNat) (by omega)).read
 have h1:=(ht.2.2 ri.toNat (by omega)).1
 have h2:=ht.2.1
 exact⟨h1,by show(p.rules.getD ri.toNat au).write=-1;omega⟩
theorem Lv (p:ap) (s:aN) (c:aD) (x:bX) (h:fp p s c) (he:qc p s c x false) (hk1:K1 p x) (ha:qe c (cQ p x) x):ab Tryz.prog 253 [.agg (dg p), .agg (gr s), .agg (cy c), .agg (iA x)] (fun u=>u= .tup [.agg (cy (fQ c (cQ p x) x)), .int .i64 0]):=by
 have h1:=h.vcon
 refine ab.intro ae ag Tryz.func253 rfl (by decide) ?_;(conv=>whnf)
 refine ar rfl ?_
 conv=>whnf
 refine ar rfl ?_
 conv=>whnf
 refine ar rfl ?_
 conv=>whnf
 refine ar rfl ?_
 conv=>whnf
 (refine oP (lu p s c h.big h.wide) ?_;conv=>whnf)
 refine fI ?_
 conv=>whnf
 (refine oP (KK p s c h.wide) ?_;conv=>whnf)
 refine dC (pN p s c x false h) (fun _=>?_) (fun _=>?_)<;>(conv=>whnf)
 case refine_2=>rename_i hn;exact absurd he hn
 have hA:=BN p s c x h he hk1
 unfold cQ at ha⊢
 generalize p.rules.getD x.rule.toNat au=r at hA ha⊢
 refine aj.news 400 (E8 1001 1002 1003 1004) (xr (fQ c r x)) (.tup [uM (fQ c r x), .int .i64 0]) hA (aa) rfl (fun u M' hR=>?_) ?_
 ·rcases hR with ⟨_,hT⟩|⟨hn,_⟩
  ·exact OM u M' hT
  ·exact absurd ha hn
 conv=>whnf
 exact⟨rfl,rfl⟩
noncomputable def E' (p:ap) (s:aN) (c:aD) (x:bX):AV:=
 if du p s c≠0 then .tup [.agg (cy cf), .int .i64 (du p s c)]
 else if¬qc p s c x false then .tup [.agg (cy cf), .int .i64 9]
 else if¬qe c (cQ p x) x then .tup [.agg (cy cf), .int .i64 4]
 else .tup [.agg (cy (fQ c (cQ p x) x)), .int .i64 0]
theorem OP (p:ap) (s:aN) (c:aD) (x:bX) (hp:qz p) (hc:MJ c) (hk1:K1 p x):ab Tryz.prog 253 [.agg (dg p), .agg (gr s), .agg (cy c), .agg (iA x)] (fun u=>u=E' p s c x):=by
 have he:=E'.eq_1 p s c x
 by_cases h1:du p s c≠0
 ·rw[if_pos h1] at he
  rw[he]
  refine ab.sub (R:=fun u=>u= .tup [.agg j6, .int .i64 (du p s c)]) ?_ (by rintro _ rfl;exact⟨_,rfl,aa,rfl⟩)
  refine ab.intro ae ag Tryz.func253 rfl (by decide) ?_;(conv=>whnf)
  refine ar rfl ?_
  conv=>whnf
  refine ar rfl ?_
  conv=>whnf
  refine ar rfl ?_
  conv=>whnf
  refine ar rfl ?_
  conv=>whnf
  (refine oP (xy p s c hp hc) ?_;conv=>whnf)
  refine dQ h1 ?_
  conv=>whnf
  exact⟨rfl,rfl⟩
 rw[if_neg h1] at he
 have h1:=Classical.not_not.1 h1
 have h:=OO h1
 by_cases h2:qc p s c x false
 rotate_left
 ·rw[if_pos h2] at he
  rw[he]
  exact Ig p s c x h.big h.wide h1 h2
 rw[if_neg (fun y=>y h2)] at he
 by_cases h3:qe c (cQ p x) x
 rotate_left
 ·rw[if_pos h3] at he
  rw[he]
  exact Ii p s c x h.big h.wide h1 h2 hk1 h3
 rw[if_neg (fun y=>y h3)] at he
 rw[he]
 exact Lv p s c x h h2 hk1 h3
def BO (p:ap) (s:aN) (c:aD) (m:Int):Int:=c.sent.getD m.toNat 0+(if p.fault=1\/p.fault=2 then c.faulty.getD m.toNat 0 else if p.fault=3 then s.f else 0)
def nO (p:ap) (s:aN) (c:aD) (i:Nat):Prop:=ku ((aA p.rules).getD i aW).bound s<=((aA p.rules).getD i aW).coef*BO p s c ((aA p.rules).getD i aW).message
instance (p:ap) (s:aN) (c:aD) (i:Nat):Decidable (nO p s c i):=inferInstanceAs (Decidable (_<=_))
def fJ (p:ap) (s:aN) (c:aD):Nat->List Int
 |0=>[]
 |k+1=>if nO p s c k then fJ p s c k++[(k:Int)] else fJ p s c k
theorem t4 (p:ap) (s:aN) (c:aD) {a:Int}:∀{k:Nat},a∈fJ p s c k↔∃i:Nat,i<k/\a=i/\nO p s c i
 |0=>by simp[fJ]
 |k+1=>by
  rw[fJ]
  have ih:=t4 p s c (a:=a) (k:=k)
  by_cases h:nO p s c k
  ·rw[if_pos h,List.mem_append,ih,List.mem_singleton]
   constructor
   ·rintro(⟨i,h1,h2,h3⟩|rfl)
    ·exact⟨i,by omega,h2,h3⟩
    ·exact⟨k,by omega,rfl,h⟩
   ·rintro⟨i,h1,h2,h3⟩
    by_cases e:i=k
    ·subst e;exact .inr h2
    ·exact .inl ⟨i,by omega,h2,h3⟩
  ·rw[if_neg h,ih]
   constructor
   ·rintro⟨i,h1,h2,h3⟩
    exact⟨i,by omega,h2,h3⟩
   ·rintro⟨i,h1,h2,h3⟩
    refine⟨i,?_,h2,h3⟩
    by_cases e:i=k
    ·subst e;exact absurd h3 h
    ·omega
theorem t7:∀(ms l:List Int) (j:Nat),l.getD j 0<=(bP l ms).getD j 0
 |[],l,j=>by rw[bP];exact Int.le_refl _
 |m::ms,l,j=>by
  rw[bP]
  refine Int.le_trans ?_ (t7 ms _ j)
  rw[gD,gD,List.getElem?_set]
  by_cases e:m.toNat=j
  ·subst e
   rw[if_pos rfl]
   by_cases hl:m.toNat<l.length
   ·rw[if_pos hl,Option.getD_some,gD];omega
   ·rw[if_neg hl,List.getElem?_eq_none (by omega)];exact Int.le_refl _
  ·rw[if_neg e];exact Int.le_refl _
theorem zB (p:ap) (s:aN) (c:aD) (r:bE) (x:bX) (m:Int):BO p s c m<=BO p s (fQ c r x) m:=by
 have a:=t7 r.send c.sent m.toNat
 have b:=t7 r.send c.faulty m.toNat
 unfold BO fQ
 dsimp only
 by_cases h:x.process<c.correct
 ·rw[if_pos h,if_pos h]
  omega
 ·rw[if_neg h,if_neg h]
  split<;>omega
theorem Ik {p:ap} {s:aN} {c:aD} (hv:aL p=0) {r:bE} {x:bX} {i:Nat} (hi:i<(aA p.rules).length) (h:nO p s c i):nO p s (fQ c r x) i:=by
 have ht:=xd hv (aH aW hi)
 have hm:=zB p s c r x ((aA p.rules).getD i aW).message
 unfold nO at h⊢
 refine Int.le_trans h (Int.mul_le_mul_of_nonneg_left hm (by omega))
def R8 (p:ap) (s:aN) (c:aD):Prop:=∀r:Nat,r<p.rules.length->∀i:Nat,i<c.states.length->¬R6 p s c (r:Int) (i:Int)
noncomputable instance decStp (p:ap) (s:aN) (c:aD):Decidable (R8 p s c):=Classical.propDecidable _
end Go.Proofs.YtekmminpfhacpaaGreatDoor
