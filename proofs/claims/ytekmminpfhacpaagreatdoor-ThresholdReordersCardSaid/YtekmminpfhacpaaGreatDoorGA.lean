import Derived.Test.YtekmminpfhacpaaGreatDoorM4
import Derived.Test.YtekmminpfhacpaaGreatDoorM6
import Derived.Test.YtekmminpfhacpaaGreatDoorP1
import Derived.Test.YtekmminpfhacpaaGreatDoorFtE
import Derived.Test.YtekmminpfhacpaaGreatDoorFwX
import Derived.Test.YtekmminpfhacpaaGreatDoorW0
import Derived.Test.YtekmminpfhacpaaGreatDoorA1
import Derived.Test.YtekmminpfhacpaaGreatDoorM7
set_option linter.unusedVariables false
set_option linter.unusedSimpArgs false
namespace Go.Proofs.YtekmminpfhacpaaGreatDoor
set_option maxRecDepth 100000
set_option maxHeartbeats 8000000
def AN (c:az):Prop:=c.shape.length<=140737488355328/\c.states.length<=140737488355328/\c.sent.length<=140737488355328/\c.faulty.length<=140737488355328
theorem rT (p:an) (s:aJ) (hp:iO p):ab Tryz.prog 94 [.agg (aR p), .agg (cq s)] (fun u=>u= .int .i64 (cr p s)):=by
 refine ab.intro ae ag Tryz.func94 rfl (by decide) ?_;(conv=>whnf)
 refine al rfl ?_
 conv=>whnf
 refine al rfl ?_
 conv=>whnf
 (refine oP (c9 p hp) ?_;conv=>whnf)
 refine ah ?_ ?_<;>(intro h1;conv=>whnf)
 ·(refine oP (c9 p hp) ?_;conv=>whnf)
  exact⟨ac (by rw[cr,if_pos h1]),rfl⟩
 have h1:aA p=0:=by omega
 refine dC (lp p s (eW h1) h1) (fun _=>?_) (fun _=>?_)<;>(conv=>whnf)
 ·rename_i h2
  refine ah ?_ ?_<;>(intro h3;conv=>whnf)
  ·exact⟨ac (by rw[cr,if_neg (by omega),if_neg (fun h=>h h2),if_pos h3]),rfl⟩
  ·exact⟨ac (by rw[cr,if_neg (by omega),if_neg (fun h=>h h2),if_neg h3]),rfl⟩
 ·rename_i h2
  exact⟨ac (by rw[cr,if_neg (by omega),if_pos h2]),rfl⟩
theorem vb (l:List Int) (m:Int) (hl:l.length<=140737488355328):ab Tryz.prog 183 [.sl 0 ao l, .int .i64 m] (fun u=>u= .bool (decide (lV l (m+1)))):=by
 refine ab.intro ae ag Tryz.func183 rfl (by decide) ?_;(conv=>whnf)
 refine aQ.loopF ae ag (fun k:Nat=>k<=l.length/\∀j,j<k->0<=l.getD j 0/\l.getD j 0<m+1) (fun k=>[(9, .int .i64 (k:Int))]) (fun _=>[]) (fun k=>l.length-k) 0 ⟨by omega,fun j hj=>by omega⟩ ?_;conv=>whnf
 refine⟨sI,?_⟩
 rintro k ⟨hk,ha⟩
 conv=>whnf
 refine ah ?_ ?_<;>(intro h1;conv=>whnf)
 ·refine nI ?_
  rw[tN]
  by_cases h2:0<=l.getD k 0/\l.getD k 0<m+1
  ·conv=>whnf
   repeat' ((first|refine nI ?_|refine aI ?_|refine tI ?_|refine fI ?_|fail);conv=>whnf)
   refine⟨k+1,sI,⟨by omega,fun j hj=>?_⟩,by dsimp only;omega⟩
   by_cases e:j=k
   ·subst e;omega
   ·exact ha j (by omega)
  ·conv=>whnf
   repeat' ((first|refine nI ?_|refine aI ?_|refine fb trivial (by omega) ?_|refine fv trivial (by omega) ?_|refine dI ?_|refine dR ?_|refine dP ?_|refine al rfl ?_|refine pI _ rfl ?_|refine aw _ rfl ?_|refine tI ?_|refine fI ?_|refine ah (fun _=>?_) (fun _=>?_))<;>conv=>whnf)
   all_goals exact⟨au (fun h=>h2 (h k (by omega))),rfl⟩
 ·exact⟨aH (fun j hj=>ha j (by omega)),rfl⟩
theorem nW (p:an) (s:aJ) (c:az) (hp:¬dX p) (hc0:AN c) (hs0:0<=s.n/\s.n<=8/\0<=s.f/\s.f<=8):ab Tryz.prog 95 [.agg (aR p), .agg (cq s), .agg (aW c)] (fun u=>u= .int .i64 (pB p s c)):=by
 have hle:=bL hp
 have hc:=hc0
 unfold AN at hc
 have hs:0<=s.n/\s.n<=1048576/\0<=s.f/\s.f<=1048576:=by omega
 have bad:¬VC p s c->pB p s c=1:=fun h=>by rw[pB,if_neg h]
 refine ab.intro ae ag Tryz.func95 rfl (by decide) ?_;(conv=>whnf)
 refine al rfl ?_
 conv=>whnf
 refine al rfl ?_
 conv=>whnf
 refine al rfl ?_
 conv=>whnf
 have hwl:(yM p=1048576/\(p.fault=1\/p.fault=2))\/(yM p=0/\¬(p.fault=1\/p.fault=2)):=by
  unfold yM
  by_cases h:p.fault=1\/p.fault=2
  ·rw[if_pos h];exact .inl ⟨rfl,h⟩
  ·rw[if_neg h];exact .inr ⟨rfl,h⟩
 have ht4:p.topology=4\/p.topology≠4:=by omega
 rcases ht4 with ht|ht<;>rcases hwl with ⟨hwl,hfa⟩|⟨hwl,hfa⟩
 all_goals
  repeat' (first|(refine tI ?_;conv=>whnf)|(refine fI ?_;conv=>whnf)|(refine ah ?_ ?_<;>(intro _;conv=>whnf)))
 all_goals
  refine dI ?_
  conv=>whnf
  (refine oC (w8 p s hs) ?_;conv=>whnf)
  refine ah ?_ ?_<;>(intro h1;conv=>whnf)
  case refine_2=>
   repeat' ((first|refine nI ?_|refine aI ?_|refine tI ?_|refine fI ?_|fail);conv=>whnf)
   exact⟨ac (bad (fun h=>h1 h.len)).symm,rfl⟩
  repeat' ((first|refine nI ?_|refine aI ?_|refine tI ?_|refine fI ?_|fail);conv=>whnf)
  refine dD (vb c.states _ (by omega)) (fun _=>?_) (fun _=>?_)<;>(conv=>whnf)
  case refine_2=>
   rename_i h
   repeat' ((first|refine nI ?_|refine aI ?_|refine tI ?_|refine fI ?_|fail);conv=>whnf)
   exact⟨ac (bad (fun hh=>h (by have:=hh.sta;rwa [show(p.states.length:Int)-1+1=p.states.length by omega]))).symm,rfl⟩
  rename_i h2
  rw[show(p.states.length:Int)-1+1=p.states.length by omega] at h2
  repeat' ((first|refine nI ?_|refine aI ?_|refine tI ?_|refine fI ?_|fail);conv=>whnf)
  refine ah ?_ ?_<;>(intro h3;conv=>whnf)
  case refine_2=>
   repeat' ((first|refine nI ?_|refine aI ?_|refine tI ?_|refine fI ?_|fail);conv=>whnf)
   exact⟨ac (bad (fun h=>h3 h.cor)).symm,rfl⟩
  refine ah ?_ ?_<;>(intro h4;conv=>whnf)
  case refine_2=>
   repeat' ((first|refine nI ?_|refine aI ?_|refine tI ?_|refine fI ?_|fail);conv=>whnf)
   exact⟨ac (bad (fun h=>h4 (by have:=h.snl;omega))).symm,rfl⟩
  refine dD (vb c.sent _ (by omega)) (fun _=>?_) (fun _=>?_)<;>(conv=>whnf)
  case refine_2=>
   rename_i h
   repeat' ((first|refine nI ?_|refine aI ?_|refine tI ?_|refine fI ?_|fail);conv=>whnf)
   exact⟨ac (bad (fun hh=>h hh.sen)).symm,rfl⟩
  rename_i h5
  refine ah ?_ ?_<;>(intro h6;conv=>whnf)
  case refine_2=>
   repeat' ((first|refine nI ?_|refine aI ?_|refine tI ?_|refine fI ?_|fail);conv=>whnf)
   exact⟨ac (bad (fun h=>h6 (by have:=h.fal;omega))).symm,rfl⟩
  refine dD (vb c.faulty _ (by omega)) (fun _=>?_) (fun _=>?_)<;>(conv=>whnf)
  case refine_2=>
   rename_i h
   repeat' ((first|refine nI ?_|refine aI ?_|refine tI ?_|refine fI ?_|fail);conv=>whnf)
   exact⟨ac (bad (fun hh=>h (by have:=hh.fau;rwa [hwl] at this))).symm,rfl⟩
  rename_i h7
  refine ah ?_ ?_<;>(intro h8;conv=>whnf)
  case refine_2=>
   repeat' ((first|refine nI ?_|refine aI ?_|refine tI ?_|refine fI ?_|fail);conv=>whnf)
   exact⟨ac (bad (fun h=>h8 h.va0)).symm,rfl⟩
  refine ah ?_ ?_<;>(intro h9;conv=>whnf)
  case refine_2=>
   repeat' ((first|refine nI ?_|refine aI ?_|refine tI ?_|refine fI ?_|fail);conv=>whnf)
   exact⟨ac (bad (fun h=>h9 (by have:=h.va1;split<;>omega))).symm,rfl⟩
  have hva1:c.value<1\/c.value<p.values.length:=by split at h9<;>omega
  repeat' ((first|refine nI ?_|refine aI ?_|refine tI ?_|refine fI ?_|fail);conv=>whnf)
  refine ah ?_ ?_<;>(intro h10;conv=>whnf)
 all_goals try first
  |exact⟨ac (bad (fun h=>by have:=h.tre ht;omega)).symm,rfl⟩
  |exact⟨ac (bad (fun h=>by have:=h.non ht;omega)).symm,rfl⟩
  |exact⟨ac (by rw[pB,if_pos ⟨h1,h2,h3,by omega,h5,by omega,by rw[hwl];exact h7,h8,hva1,fun h=>absurd h ht,fun _=>by omega⟩]),rfl⟩
  |skip
 all_goals
  have hE:=Ae c.shape (by omega)
  by_cases hsh:shp c.shape
  ·rw[if_pos hsh] at hE
   (refine oP (hE) ?_;conv=>whnf)
   refine bX (w9 hsh) ?_
   conv=>whnf
   exact⟨ac (by rw[pB,if_pos ⟨h1,h2,h3,by omega,h5,by omega,by rw[hwl];exact h7,h8,hva1,fun _=>⟨h10,hsh⟩,fun h=>absurd ht h⟩]),rfl⟩
  ·rw[if_neg hsh] at hE
   (refine oP (hE) ?_;conv=>whnf)
   exact⟨ac (bad (fun h=>hsh (h.tre ht).2)).symm,rfl⟩
theorem vd (p:an) (s:aJ) (c:az) (hp:iO p) (hc:AN c):ab Tryz.prog 151 [.agg (aR p), .agg (cq s), .agg (aW c)] (fun u=>u= .int .i64 (cF p s c)):=by
 refine ab.intro ae ag Tryz.func151 rfl (by decide) ?_;(conv=>whnf)
 refine al rfl ?_
 conv=>whnf
 refine al rfl ?_
 conv=>whnf
 refine al rfl ?_
 conv=>whnf
 (refine oP (rT p s hp) ?_;conv=>whnf)
 refine ah ?_ ?_<;>(intro h1;conv=>whnf)
 ·exact⟨ac (by rw[cF,if_pos h1]),rfl⟩
 ·have:=iy (p:=p) (s:=s) (by omega)
  (refine oP (nW p s c (eW this.1) hc (by omega)) ?_;conv=>whnf)
  exact⟨ac (by rw[cF,if_neg h1]),rfl⟩
theorem ve {p:an} {s:aJ} {c:az} (hz:cr p s=0) (h:VC p s c):bA c=false:=by
 have h2:=iy (p:=p) (s:=s) hz
 have hle:=bL (eW h2.1)
 have hm:gk p s<=s.n:=by unfold gk;split<;>omega
 have h3:=h.len
 have h4:=h.snl
 have h5:=h.fal
 have h6:c.shape.length<=8:=by
  by_cases ht:p.topology=4
  ·have:=(h.tre ht).1;omega
  ·have:=h.non ht;omega
 unfold bA
 simp only[Bool.or_eq_false_iff,decide_eq_false_iff_not]
 omega
theorem zo {p:an} {s:aJ} {c:az} (h:cF p s c=0):dx p s c:=by
 have hz:cr p s=0:=by
  unfold cF at h
  by_cases h1:cr p s≠0
  ·rw[if_pos h1] at h;exact absurd h h1
  ·exact Classical.not_not.1 h1
 have hv:VC p s c:=by
  unfold cF at h
  rw[if_neg (fun x=>x hz)] at h
  refine Classical.byContradiction fun hn=>?_
  rw[pB,if_neg hn] at h
  omega
 exact dx.of (eW (iy hz).1) (ve hz hv) h
theorem AO {p:an} {s:aJ} {c:az} (hz:cr p s=0) (h:VC p s c):cF p s c=0:=by
 unfold cF
 rw[if_neg (by omega),pB,if_pos h]
set_option maxHeartbeats 16000000
theorem F3 {p:an} (ht:dZ p) (hv:aA p=0) {ri:Int} (hr:0<=ri/\ri<p.rules.length) (i:Int):K1 p ⟨ri,i,-1⟩:=by
 have hR:=(cQ hv (i:=ri.toNat) (by omega)).read
 have h1:=(ht.2.2 ri.toNat (by omega)).1
 have h2:=ht.2.1
 exact⟨h1,by show(p.rules.getD ri.toNat ap).write=-1;omega⟩
theorem IR (p:an) (s:aJ) (c:az) (x:bH) (h:dx p s c) (he:mL p s c x false) (hk1:K1 p x) (ha:nV c (ce p x) x):ab Tryz.prog 253 [.agg (aR p), .agg (cq s), .agg (aW c), .agg (dG x)] (fun u=>u= .tup [.agg (aW (eD c (ce p x) x)), .int .i64 0]):=by
 have h1:=h.vcon
 refine ab.intro ae ag Tryz.func253 rfl (by decide) ?_;(conv=>whnf)
 refine al rfl ?_
 conv=>whnf
 refine al rfl ?_
 conv=>whnf
 refine al rfl ?_
 conv=>whnf
 refine al rfl ?_
 conv=>whnf
 (refine oP (ke p s c h.big h.wide) ?_;conv=>whnf)
 refine fI ?_
 conv=>whnf
 (refine oP (EE p s c h.wide) ?_;conv=>whnf)
 refine dC (lB p s c x false h) (fun _=>?_) (fun _=>?_)<;>(conv=>whnf)
 case refine_2=>rename_i hn;exact absurd he hn
 have hA:=zn p s c x h he hk1
 unfold ce at ha⊢
 generalize p.rules.getD x.rule.toNat ap=r at hA ha⊢
 refine am.news 400 (zm 1001 1002 1003 1004) (rP (eD c r x)) (.tup [pS (eD c r x), .int .i64 0]) hA (aa) rfl (fun u M' hR=>?_) ?_
 ·rcases hR with ⟨_,hT⟩|⟨hn,_⟩
  ·exact LA u M' hT
  ·exact absurd ha hn
 conv=>whnf
 exact⟨rfl,rfl⟩
noncomputable def CH (p:an) (s:aJ) (c:az) (x:bH):AV:=
 if cF p s c≠0 then .tup [.agg (aW aU), .int .i64 (cF p s c)]
 else if¬mL p s c x false then .tup [.agg (aW aU), .int .i64 9]
 else if¬nV c (ce p x) x then .tup [.agg (aW aU), .int .i64 4]
 else .tup [.agg (aW (eD c (ce p x) x)), .int .i64 0]
theorem LC (p:an) (s:aJ) (c:az) (x:bH) (hp:iO p) (hc:AN c) (hk1:K1 p x):ab Tryz.prog 253 [.agg (aR p), .agg (cq s), .agg (aW c), .agg (dG x)] (fun u=>u=CH p s c x):=by
 have he:=CH.eq_1 p s c x
 by_cases h1:cF p s c≠0
 ·rw[if_pos h1] at he
  rw[he]
  refine ab.sub (R:=fun u=>u= .tup [.agg jj, .int .i64 (cF p s c)]) ?_ (by rintro _ rfl;exact⟨_,rfl,aa,rfl⟩)
  refine ab.intro ae ag Tryz.func253 rfl (by decide) ?_;(conv=>whnf)
  refine al rfl ?_
  conv=>whnf
  refine al rfl ?_
  conv=>whnf
  refine al rfl ?_
  conv=>whnf
  refine al rfl ?_
  conv=>whnf
  (refine oP (vd p s c hp hc) ?_;conv=>whnf)
  refine cC h1 ?_
  conv=>whnf
  exact⟨rfl,rfl⟩
 rw[if_neg h1] at he
 have h1:=Classical.not_not.1 h1
 have h:=zo h1
 by_cases h2:mL p s c x false
 rotate_left
 ·rw[if_pos h2] at he
  rw[he]
  exact FZ p s c x h.big h.wide h1 h2
 rw[if_neg (fun y=>y h2)] at he
 by_cases h3:nV c (ce p x) x
 rotate_left
 ·rw[if_pos h3] at he
  rw[he]
  exact F1 p s c x h.big h.wide h1 h2 hk1 h3
 rw[if_neg (fun y=>y h3)] at he
 rw[he]
 exact IR p s c x h h2 hk1 h3
def lC (p:an) (s:aJ) (c:az) (m:Int):Int:=c.sent.getD m.toNat 0+(if p.fault=1\/p.fault=2 then c.faulty.getD m.toNat 0 else if p.fault=3 then s.f else 0)
def jH (p:an) (s:aJ) (c:az) (i:Nat):Prop:=fX ((ax p.rules).getD i aC).bound s<=((ax p.rules).getD i aC).coef*lC p s c ((ax p.rules).getD i aC).message
instance (p:an) (s:aJ) (c:az) (i:Nat):Decidable (jH p s c i):=inferInstanceAs (Decidable (_<=_))
def cU (p:an) (s:aJ) (c:az):Nat->List Int
 |0=>[]
 |k+1=>if jH p s c k then cU p s c k++[(k:Int)] else cU p s c k
theorem rU (p:an) (s:aJ) (c:az):∀k,(cU p s c k).length<=k
 |0=>Nat.le_refl _
 |k+1=>by
  have:=rU p s c k
  rw[cU]
  split
  ·rw[List.length_append];simp only[List.length_cons,List.length_nil];omega
  ·omega
theorem lD (p:an) (s:aJ) (c:az) {a:Int}:∀{k:Nat},a∈cU p s c k↔∃i:Nat,i<k/\a=i/\jH p s c i
 |0=>by simp[cU]
 |k+1=>by
  rw[cU]
  have ih:=lD p s c (a:=a) (k:=k)
  by_cases h:jH p s c k
  ·rw[if_pos h,List.mem_append,ih,List.mem_singleton]
   constructor
   ·rintro(⟨i,h1,h2,h3⟩|rfl)
    ·exact⟨i,by omega,h2,h3⟩
    ·exact⟨k,by omega,rfl,h⟩
   ·rintro⟨i,h1,h2,h3⟩
    by_cases e:i=k
    ·subst e;exact .inr h2
    ·exact .inl ⟨i,by omega,h2,h3⟩
  ·rw[if_neg h,ih]
   constructor
   ·rintro⟨i,h1,h2,h3⟩
    exact⟨i,by omega,h2,h3⟩
   ·rintro⟨i,h1,h2,h3⟩
    refine⟨i,?_,h2,h3⟩
    by_cases e:i=k
    ·subst e;exact absurd h3 h
    ·omega
theorem rV:∀(ms l:List Int) (j:Nat),l.getD j 0<=(bP l ms).getD j 0
 |[],l,j=>by rw[bP];exact Int.le_refl _
 |m::ms,l,j=>by
  rw[bP]
  refine Int.le_trans ?_ (rV ms _ j)
  rw[gD,gD,List.getElem?_set]
  by_cases e:m.toNat=j
  ·subst e
   rw[if_pos rfl]
   by_cases hl:m.toNat<l.length
   ·rw[if_pos hl,Option.getD_some,gD];omega
   ·rw[if_neg hl,List.getElem?_eq_none (by omega)];exact Int.le_refl _
  ·rw[if_neg e];exact Int.le_refl _
theorem xv (p:an) (s:aJ) (c:az) (r:bo) (x:bH) (m:Int):lC p s c m<=lC p s (eD c r x) m:=by
 have a:=rV r.send c.sent m.toNat
 have b:=rV r.send c.faulty m.toNat
 unfold lC eD
 dsimp only
 by_cases h:x.process<c.correct
 ·rw[if_pos h,if_pos h]
  omega
 ·rw[if_neg h,if_neg h]
  split<;>omega
theorem F4 {p:an} {s:aJ} {c:az} (hv:aA p=0) {r:bo} {x:bH} {i:Nat} (hi:i<(ax p.rules).length) (h:jH p s c i):jH p s (eD c r x) i:=by
 have ht:=o9 hv (aB aC hi)
 have hm:=xv p s c r x ((ax p.rules).getD i aC).message
 unfold jH at h⊢
 refine Int.le_trans h (Int.mul_le_mul_of_nonneg_left hm (by omega))
theorem JU {p:an} {s:aJ} {c:az} (h:dx p s c) {m:Int} (hm:0<=m/\m<p.messages.length):
  (0<=c.sent.getD m.toNat 0/\c.sent.getD m.toNat 0<=1048576)/\(0<=c.faulty.getD m.toNat 0/\c.faulty.getD m.toNat 0<=1048576)/\(0<=s.f/\s.f<=8)/\(0<=lC p s c m/\lC p s c m<=2097152):=by
 have h1:=h.vc.snl
 have h2:=h.vc.fal
 have a:=h.sent.1 m.toNat (by omega)
 have b:=h.sent.2 m.toNat (by omega)
 have hz:=h.sz
 refine⟨by omega,by omega,by omega,?_⟩
 unfold lC
 split
 ·omega
 ·split<;>omega
theorem CI (p:an) (s:aJ) (c:az) (h:dx p s c) (m:Int) (hm:0<=m/\m<p.messages.length):ab Tryz.prog 174 [.agg (aR p), .agg (cq s), .agg (aW c), .int .i64 m] (fun u=>u= .int .i64 (lC p s c m)):=by
 obtain⟨b1,b2,b3,b4⟩:=JU h hm
 have h1:=h.vc.snl
 have h2:=h.vc.fal
 refine ab.intro ae ag Tryz.func174 rfl (by decide) ?_;(conv=>whnf)
 refine al rfl ?_
 conv=>whnf
 refine al rfl ?_
 conv=>whnf
 refine al rfl ?_
 conv=>whnf
 refine nI ?_
 conv=>whnf
 refine ah ?_ ?_<;>(intro k1;conv=>whnf)
 all_goals repeat' (first|(refine nI ?_;conv=>whnf)|(refine aI ?_;conv=>whnf)|(refine ah ?_ ?_<;>(intro _;conv=>whnf))|fail)
 all_goals
  refine⟨C6 ?_,rfl⟩
  unfold lC
  (repeat' split)<;>omega
theorem CJ (p:an) (s:aJ) (c:az) (hp:iO p) (h:dx p s c):ab Tryz.prog 81 [.agg (aR p), .agg (cq s), .agg (aW c)] (fun u=>u= .sl 0 ao (cU p s c (ax p.rules).length)):=by
 have hv:=h.val
 have hT:=(aL hv).thr
 refine ab.intro ae ag Tryz.func81 rfl (by decide) ?_;(conv=>whnf)
 refine al rfl ?_
 conv=>whnf
 refine al rfl ?_
 conv=>whnf
 refine al rfl ?_
 conv=>whnf
 (refine oP (pC p hp hv) ?_;conv=>whnf)
 refine aQ.loopF ae ag (fun i:Nat=>i<=(ax p.rules).length) (fun i=>[(21, .int .i64 (i:Int)),(7, .row 1000 (cU p s c i).length 1)]) (fun i=>[(1000, .row 3 0 ao (cU p s c i))]) (fun i=>(ax p.rules).length-i) 0 (Nat.zero_le _) ?_;conv=>whnf
 refine⟨bn.by_ [(1000, .nil 1)] _ 400 rfl (aa) (aa),?_⟩
 rintro i hi
 have hul:=rU p s c i
 conv=>whnf
 refine ah ?_ ?_<;>(intro k1;conv=>whnf)
 ·skip
  have hil:i<(ax p.rules).length:=by omega
  have ht:=o9 hv (aB aC hil)
  obtain⟨c1,c2,c3,b4⟩:=JU h ht.1
  have hsl:=h.vc.snl
  have hfl:=h.vc.fal
  have hub:jH p s c i↔fX ((ax p.rules).getD i aC).bound s<=((ax p.rules).getD i aC).coef*lC p s c ((ax p.rules).getD i aC).message:=Iff.rfl
  have hm1:((ax p.rules).getD i aC).coef*lC p s c ((ax p.rules).getD i aC).message<=100*2097152:=Int.mul_le_mul (by omega) (by omega) (by omega) (by omega)
  have hm0:0<=((ax p.rules).getD i aC).coef*lC p s c ((ax p.rules).getD i aC).message:=Int.mul_nonneg (by omega) (by omega)
  have hup:cU p s c (i+1)=if jH p s c i then cU p s c i++[(i:Int)] else cU p s c i:=rfl
  have hE:=oU ((ax p.rules).getD i aC).bound s ht.2.2 h.siz
  have hC:=CI p s c h ((ax p.rules).getD i aC).message ht.1
  refine nI ?_
  rw[tN]
  conv=>whnf
  (refine oP (hE) ?_;conv=>whnf)
  first|refine dI ?_|refine wG (by decide+kernel) ?_
  conv=>whnf
  (refine oC (hC) ?_;conv=>whnf)
  refine aI ?_
  conv=>whnf
  refine ah ?_ ?_<;>(intro k2;conv=>whnf)
  ·refine cz [(i:Int)] rfl lI ?_
   conv=>whnf
   repeat' ((first|refine nI ?_|refine aI ?_|refine fb trivial (by omega) ?_|refine fv trivial (by omega) ?_|refine dI ?_|refine dR ?_|refine dP ?_|refine al rfl ?_|refine pI _ rfl ?_|refine aw _ rfl ?_|refine tI ?_|refine fI ?_|refine ah (fun _=>?_) (fun _=>?_))<;>conv=>whnf)
   refine⟨i+1,?_,by omega,by dsimp only;omega⟩
   dsimp only
   rw[hup,if_pos (hub.2 (by omega))]
   exact bn.by_ [(1000, .old 47)] _ 400 rfl (aa) (aa)
  ·repeat' ((first|refine nI ?_|refine aI ?_|refine fb trivial (by omega) ?_|refine fv trivial (by omega) ?_|refine dI ?_|refine dR ?_|refine dP ?_|refine al rfl ?_|refine pI _ rfl ?_|refine aw _ rfl ?_|refine tI ?_|refine fI ?_|refine ah (fun _=>?_) (fun _=>?_))<;>conv=>whnf)
   refine⟨i+1,?_,by omega,by dsimp only;omega⟩
   dsimp only
   rw[hup,if_neg (fun hh=>k2 (by have:=hub.1 hh;omega))]
   exact bn.by_ [(1000, .old 1000)] _ 400 rfl (aa) (aa)
 ·obtain rfl:i=(ax p.rules).length:=by omega
  exact⟨rfl,rfl⟩
def Oj (p:an) (s:aJ) (c:az):Prop:=∀r:Nat,r<p.rules.length->∀i:Nat,i<c.states.length->¬JT p s c (r:Int) (i:Int)
noncomputable instance decStp (p:an) (s:aJ) (c:az):Decidable (Oj p s c):=Classical.propDecidable _
end Go.Proofs.YtekmminpfhacpaaGreatDoor
