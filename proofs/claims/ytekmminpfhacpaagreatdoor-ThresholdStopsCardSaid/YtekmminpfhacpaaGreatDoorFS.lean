import Derived.Test.YtekmminpfhacpaaGreatDoorHA
set_option linter.unusedVariables false
set_option linter.unusedSimpArgs false
namespace Go.Proofs.YtekmminpfhacpaaGreatDoor
set_option maxRecDepth 100000
set_option maxHeartbeats 16000000
theorem Br {p:an} {s:aC} {c:ay} (h:bh c=false) (l:List cj):∃m e,rp p s [c] c l=pC m e:=by
 obtain⟨m,e,h1,_⟩:=rT p s l [c] c (by simpa using h) h
 exact⟨m,e,h1⟩
structure Rn where
 start:ay
 steps:List cj
def wU (r:Rn):List AV:=bd r.start++[.sl cH ef r.steps]
noncomputable def Eu (p:an) (s:aC) (r:Rn):AV:=if aJ p s≠0 then pC [] (aJ p s) else if VC p s r.start then rp p s [r.start] r.start r.steps else pC [] 10
def bN (p:an) (s:aC):ay->List cj->Prop
 |_,[]=>True
 |cur,x::xs=>iZ p s cur x false/\kq cur (cN p x) x/\bN p s (d9 cur (cN p x) x) xs
noncomputable instance decRun (p:an) (s:aC) (c:ay) (l:List cj):Decidable (bN p s c l):=Classical.propDecidable _
def tr (p:an):ay->List cj->List ay
 |_,[]=>[]
 |cur,x::xs=>d9 cur (cN p x) x::tr p (d9 cur (cN p x) x) xs
theorem Bs {p:an} {s:aC}:∀{xs:List cj} {acc:List ay} {cur:ay},bN p s cur xs->rp p s acc cur xs=pC (acc++tr p cur xs) 0
 |[],acc,cur,_=>by simp[rp,tr]
 |x::xs,acc,cur,⟨h1,h2,h3⟩=>by
  rw[rp,if_pos h1,if_pos h2,Bs h3,tr,List.append_assoc]
  rfl
theorem Bt {p:an} {s:aC}:∀{xs:List cj} {acc:List ay} {cur:ay},¬bN p s cur xs->∃e,e≠0/\rp p s acc cur xs=pC [] e
 |[],acc,cur,h=>absurd trivial h
 |x::xs,acc,cur,h=>by
  rw[rp]
  by_cases h1:iZ p s cur x false
  ·rw[if_pos h1]
   by_cases h2:kq cur (cN p x) x
   ·rw[if_pos h2]
    exact Bt fun h3=>h ⟨h1,h2,h3⟩
   ·rw[if_neg h2];exact⟨4,by decide,rfl⟩
  ·rw[if_neg h1];exact⟨9,by decide,rfl⟩
theorem Bu {p:an}:∀(xs:List cj) (cur:ay),(tr p cur xs).length=xs.length
 |[],_=>rfl
 |x::xs,cur=>by simp only[tr,List.length_cons];rw[Bu xs]
def cE (p:an) (c:ay) (l:List cj):List ay:=c::tr p c l
theorem fm (p:an) (c:ay) (l:List cj):(cE p c l).length=l.length+1:=by simp[cE,Bu]
theorem i6 {p:an} {s:aC}:∀{xs:List cj} {cur:ay},dk p s cur->bN p s cur xs->∀i,i<=xs.length->dk p s ((cE p cur xs).getD i aX)
 |_,cur,h,_,0,_=>h
 |[],_,_,_,i+1,hi=>by simp at hi
 |x::xs,cur,h,⟨h1,h2,h3⟩,i+1,hi=>by
  have:=i6 (h.next h1 h2) h3 i (by simpa using hi)
  exact this
theorem ue {p:an} {s:aC}:∀{xs:List cj} {cur:ay},dk p s cur->bN p s cur xs->∀i,i<xs.length->
  iZ p s ((cE p cur xs).getD i aX) (xs.getD i cH) false/\kq ((cE p cur xs).getD i aX) (cN p (xs.getD i cH)) (xs.getD i cH)/\(cE p cur xs).getD (i+1) aX=d9 ((cE p cur xs).getD i aX) (cN p (xs.getD i cH)) (xs.getD i cH)
 |[],_,_,_,_,hi=>by simp at hi
 |x::xs,cur,h,⟨h1,h2,h3⟩,0,_=>⟨h1,h2,rfl⟩
 |x::xs,cur,h,⟨h1,h2,h3⟩,i+1,hi=>ue (h.next h1 h2) h3 i (by simpa using hi)
theorem uf {p:an} (h:aw p=0):0<p.initial.length/\bw p.initial p.states.length=0/\bw p.leader p.states.length=0:=by
 unfold aw at h
 have ht:tp p=0:=by
  (repeat' split at h)<;>first|exact h|omega
 have hz:=bG ht
 have h1:=hz (if p.initial.length=0 then 1 else 0) (by simp)
 refine⟨?_,hz _ (by simp),hz _ (by simp)⟩
 split at h1<;>omega
theorem ug {p:an} {q:aE} (h:aU p q=0):aw p=0:=by
 unfold aU at h
 by_cases h1:aw p≠0
 ·rw[if_pos h1] at h;omega
 ·omega
def F0 (p:an) (q:aE):List Int:=if 0<q.start.length then q.start else p.initial
def vJ (p:an) (q:aE) (s:aC) (i:Nat):List Int:=if i=0/\0<p.leader.length then p.leader else if(i:Int)<s.n-s.f then F0 p q else p.initial
theorem pf (l:List Int) (h0:0<l.length) (hl:l.length<=1000):ab Tryz.prog 39 [.sl 0 ao l] (fun u=>u= .sl 0 ao l):=by
 refine ab.intro ac ae Tryz.func39 rfl (by decide) ?_;(conv=>whnf)
 refine cz (fun e=>by rw[e] at h0;simp at h0) ?_
 conv=>whnf
 refine bD 0 ao [] rfl ?_
 conv=>whnf
 refine bQ _ rfl (by simp only[List.length_nil];omega) ?_
 conv=>whnf
 exact⟨rfl,rfl⟩
theorem DD (p:an) (q:aE) (hp:¬cp p) (hq:¬iX q) (hv:aU p q=0):ab Tryz.prog 101 [.agg (aB p), .agg (cJ q)] (fun u=>u= .tup [.sl 0 ao (F0 p q), .int .i64 0]):=by
 have hle:=aO hp
 have hlq:=iY hq
 have hi:=uf (ug hv)
 have he:=F0.eq_1 p q
 refine ab.intro ac ae Tryz.func101 rfl (by decide) ?_;(conv=>whnf)
 refine ak rfl ?_
 conv=>whnf
 refine ak rfl ?_
 conv=>whnf
 (refine oP (iq p q (iT hp) (oz hq)) ?_;conv=>whnf)
 refine fI ?_
 conv=>whnf
 refine ag ?_ ?_<;>(intro h1;conv=>whnf)
 ·rw[if_pos (by omega)] at he
  (refine oP (pf q.start (by omega) (by omega)) ?_;conv=>whnf)
  exact⟨he▸rfl,rfl⟩
 ·rw[if_neg (by omega)] at he
  (refine oP (pf p.initial (by omega) (by omega)) ?_;conv=>whnf)
  exact⟨he▸rfl,rfl⟩
theorem r3 (p:an) (q:aE) (hp:¬cp p) (hq:¬iX q):ab Tryz.prog 211 [.agg (aB p), .agg (cJ q)] (fun u=>u= .sl 0 ao (F0 p q)):=by
 have hle:=aO hp
 have hlq:=iY hq
 have he:=F0.eq_1 p q
 refine ab.intro ac ae Tryz.func211 rfl (by decide) ?_;(conv=>whnf)
 refine ak rfl ?_
 conv=>whnf
 refine ak rfl ?_
 conv=>whnf
 refine ag ?_ ?_<;>(intro h1;conv=>whnf)
 ·rw[if_pos (by omega)] at he
  (refine oP (f7 q.start (by omega)) ?_;conv=>whnf)
  exact⟨he▸rfl,rfl⟩
 ·rw[if_neg (by omega)] at he
  (refine oP (f7 p.initial (by omega)) ?_;conv=>whnf)
  exact⟨he▸rfl,rfl⟩
theorem Bv (p:an) (q:aE) (s:aC) (i:Nat) (hp:¬cp p) (hq:¬iX q) (hs:(1<=s.n/\s.n<=8)/\(0<=s.f/\s.f<=s.n)):ab Tryz.prog 236 [.agg (aB p), .agg (cJ q), .agg (bv s), .int .i64 (i:Int)] (fun u=>u= .sl 0 ao (vJ p q s i)):=by
 have he:=vJ.eq_1 p q s i
 refine ab.intro ac ae Tryz.func236 rfl (by decide) ?_;(conv=>whnf)
 refine ak rfl ?_
 conv=>whnf
 refine ak rfl ?_
 conv=>whnf
 refine ak rfl ?_
 conv=>whnf
 by_cases h1:i=0/\0<p.leader.length
 ·rw[if_pos h1] at he
  repeat' ((first|refine nI ?_|refine aI ?_|refine tI ?_|refine fI ?_|fail);conv=>whnf)
  exact⟨he▸rfl,rfl⟩
 rw[if_neg h1] at he
 by_cases h2:(i:Int)<s.n-s.f
 ·rw[if_pos h2] at he
  by_cases h3:i=0
  all_goals
   repeat' ((first|refine nI ?_|refine aI ?_|refine tI ?_|refine fI ?_|fail);conv=>whnf)
   (refine oP (r3 p q hp hq) ?_;conv=>whnf)
   exact⟨he▸rfl,rfl⟩
 ·rw[if_neg h2] at he
  by_cases h3:i=0
  all_goals
   repeat' ((first|refine nI ?_|refine aI ?_|refine tI ?_|refine fI ?_|fail);conv=>whnf)
   exact⟨he▸rfl,rfl⟩
noncomputable def lQ (p:an) (q:aE) (s:aC):Int:=if aU p q≠0 then aU p q else aJ p s
theorem yn (p:an) (q:aE) (s:aC) (hp:¬cp p) (hq:¬iX q):ab Tryz.prog 73 [.agg (aB p), .agg (cJ q), .agg (bv s)] (fun u=>u= .int .i64 (lQ p q s)):=by
 have he:=lQ.eq_1 p q s
 refine ab.intro ac ae Tryz.func73 rfl (by decide) ?_;(conv=>whnf)
 refine ak rfl ?_
 conv=>whnf
 refine ak rfl ?_
 conv=>whnf
 refine ak rfl ?_
 conv=>whnf
 (refine oP (iq p q (iT hp) (oz hq)) ?_;conv=>whnf)
 refine ag ?_ ?_<;>(intro h1;conv=>whnf)
 ·rw[if_pos h1] at he;exact⟨he▸rfl,rfl⟩
 ·rw[if_neg h1] at he
  (refine oP (kC p s hp) ?_;conv=>whnf)
  exact⟨he▸rfl,rfl⟩
theorem pg (p:an) (q:aE) (s:aC) (hp:¬cp p) (hq:¬iX q):ab Tryz.prog 147 [.agg (aB p), .agg (cJ q), .agg (bv s)] (fun u=>u= .int .i64 (lQ p q s)):=by
 have he:=lQ.eq_1 p q s
 refine ab.intro ac ae Tryz.func147 rfl (by decide) ?_;(conv=>whnf)
 refine ak rfl ?_
 conv=>whnf
 refine ak rfl ?_
 conv=>whnf
 refine ak rfl ?_
 conv=>whnf
 (refine oP (jV p q (iT hp) (oz hq)) ?_;conv=>whnf)
 refine ag ?_ ?_<;>(intro h1;conv=>whnf)
 ·rw[if_pos h1] at he;exact⟨he▸rfl,rfl⟩
 ·rw[if_neg h1] at he
  (refine oP (zY p s hp) ?_;conv=>whnf)
  exact⟨he▸rfl,rfl⟩
def um (p:an) (q:aE) (s:aC) (c:ay):Prop:=VC p s c/\c.value=0/\(∀j,j<c.sent.length->c.sent.getD j 0=0/\c.faulty.getD j 0=0)/\∀i,i<c.states.length->c.states.getD i 0∈vJ p q s i
noncomputable instance decIsI (p:an) (q:aE) (s:aC) (c:ay):Decidable (um p q s c):=Classical.propDecidable _
theorem Bw (l:List Int) (s:Int) (hl:l.length<=1000):ab Tryz.prog 161 [.sl 0 ao l, .int .i64 s] (fun u=>u= .bool (decide (s∈l))):=by
 refine ab.intro ac ae Tryz.func161 rfl (by decide) ?_;(conv=>whnf)
 refine aF.loopF ac ae (fun k:Nat=>k<=l.length/\s∉l.take k) (fun k=>[(9, .int .i64 (k:Int))]) (fun _=>[]) (fun k=>l.length-k) 0 ⟨by omega,by simp⟩ ?_;conv=>whnf
 refine⟨sI,?_⟩
 rintro k ⟨hk,ha⟩
 conv=>whnf
 repeat' ((first|refine nI ?_|refine aI ?_|refine uI ?_|refine vI ?_|refine dI ?_|refine dR ?_|refine dP ?_|refine ak rfl ?_|refine pI _ rfl ?_|refine ap _ rfl ?_|refine tI ?_|refine fI ?_|refine ag (fun _=>?_) (fun _=>?_))<;>conv=>whnf)
 ·rename_i h1 h2
  rw[tN] at h2
  refine⟨av ?_,rfl⟩
  rw[h2,gD,gL (by omega)]
  exact List.getElem_mem _
 ·rename_i h1 h2
  rw[tN] at h2
  refine⟨k+1,sI,⟨by omega,?_⟩,by dsimp only;omega⟩
  rw[List.take_succ_eq_append_getElem (by omega),List.mem_append,List.mem_singleton,not_or]
  refine⟨ha,fun e=>h2 ?_⟩
  rw[gD,gL (by omega)]
  exact e
 ·obtain rfl:k=l.length:=by omega
  rw[List.take_length] at ha
  exact⟨al ha,rfl⟩
theorem Bx {p:an} {q:aE} (hp:¬cp p) (hq:¬iX q) (s:aC) (k:Nat):(vJ p q s k).length<=1000:=by
 have hle:=aO hp
 have hlq:=iY hq
 unfold vJ F0
 (repeat' split)<;>omega
theorem vK (p:an) (q:aE) (s:aC) (c:ay) (hp:¬cp p) (hq:¬iX q) (hw:bh c=false) (hv:aU p q=0) (hz:aJ p s=0):ab Tryz.prog 74 [.agg (aB p), .agg (cJ q), .agg (bv s), .agg (bd c)] (fun u=>u= .bool (decide (um p q s c))):=by
 have hle:=aO hp
 have hc:=br hw
 have h2:=c8 hz
 refine ab.intro ac ae Tryz.func74 rfl (by decide) ?_;(conv=>whnf)
 refine ak rfl ?_
 conv=>whnf
 refine ak rfl ?_
 conv=>whnf
 refine ak rfl ?_
 conv=>whnf
 refine ak rfl ?_
 conv=>whnf
 have hV:=iW p s c hp hw (by omega)
 by_cases h3:VC p s c
 case neg=>
  have hv:km p s c=1:=by unfold km;rw[if_neg h3]
  rw[hv] at hV
  (refine oP (hV) ?_;conv=>whnf)
  refine tI ?_
  conv=>whnf
  exact⟨al (fun h=>h3 h.1),rfl⟩
 have hv0:km p s c=0:=by unfold km;rw[if_pos h3]
 rw[hv0] at hV
 have hsf:=h3.snl.trans h3.fal.symm
 (refine oP (hV) ?_;conv=>whnf)
 refine fI ?_
 conv=>whnf
 refine ag ?_ ?_<;>(intro h4;conv=>whnf)
 ·exact⟨al (fun h=>h4 h.2.1),rfl⟩
 refine aF.loopF ac ae (fun k:Nat=>k<=c.sent.length/\∀j,j<k->c.sent.getD j 0=0/\c.faulty.getD j 0=0) (fun k=>[(28, .int .i64 (k:Int))]) (fun _=>[]) (fun k=>c.sent.length-k) 0 ⟨by omega,fun j hj=>by omega⟩ ?_;conv=>whnf
 refine⟨sI,?_⟩
 rintro k ⟨hk,ha⟩
 conv=>whnf
 refine ag ?_ ?_<;>(intro g1;conv=>whnf)
 ·refine nI ?_
  conv=>whnf
  rw[tN]
  refine ag ?_ ?_<;>(intro g2;conv=>whnf)
  ·exact⟨al (fun h=>g2 (h.2.2.1 k (by omega)).1),rfl⟩
  refine nI ?_
  conv=>whnf
  rw[tN]
  refine ag ?_ ?_<;>(intro g3;conv=>whnf)
  ·exact⟨al (fun h=>g3 (h.2.2.1 k (by omega)).2),rfl⟩
  repeat' ((first|refine nI ?_|refine aI ?_|refine tI ?_|refine fI ?_|fail);conv=>whnf)
  refine⟨k+1,sI,⟨by omega,fun j hj=>?_⟩,by dsimp only;omega⟩
  by_cases e:j=k
  ·subst e;exact⟨by omega,by omega⟩
  ·exact ha j (by omega)
 have h5:∀j,j<c.sent.length->c.sent.getD j 0=0/\c.faulty.getD j 0=0:=fun j hj=>ha j (by omega)
 clear ha hk g1
 (refine oP (DD p q hp hq hv) ?_;conv=>whnf)
 refine aF.loopF ac ae (fun i:Nat=>i<=c.states.length/\∀j,j<i->c.states.getD j 0∈vJ p q s j) (fun i=>[(55, .int .i64 (i:Int))]) (fun _=>[]) (fun i=>c.states.length-i) 0 ⟨by omega,fun j hj=>by omega⟩ ?_;conv=>whnf
 refine⟨sI,?_⟩
 rintro i ⟨hi,ha⟩
 conv=>whnf
 refine ag ?_ ?_<;>(intro g1;conv=>whnf)
 ·have he:=vJ.eq_1 p q s i
  have hcl:=Bx hp hq s i
  have hcor:=h3.cor
  refine nI ?_
  conv=>whnf
  rw[tN]
  have hnx:c.states.getD i 0∈vJ p q s i->∀j,j<i+1->c.states.getD j 0∈vJ p q s j:=fun h j hj=>by
   by_cases e:j=i
   ·subst e;exact h
   ·exact ha j (by omega)
  have hno:c.states.getD i 0∉vJ p q s i->¬um p q s c:=fun h hh=>h (hh.2.2.2 i (by omega))
  generalize c.states.getD i 0=x at hnx hno
  by_cases k1:i=0/\0<p.leader.length
  ·rw[if_pos k1] at he
   rw[he] at hnx hno hcl
   repeat' ((first|refine nI ?_|refine aI ?_|refine tI ?_|refine fI ?_|fail);conv=>whnf)
   refine dC (Bw p.leader x (by omega)) (fun _=>?_) (fun _=>?_)<;>(conv=>whnf)
   ·rename_i hm
    repeat' ((first|refine nI ?_|refine aI ?_|refine tI ?_|refine fI ?_|fail);conv=>whnf)
    exact⟨i+1,sI,⟨by omega,hnx hm⟩,by dsimp only;omega⟩
   ·rename_i hm
    exact⟨al (hno hm),rfl⟩
  rw[if_neg k1] at he
  by_cases k2:(i:Int)<s.n-s.f
  ·rw[if_pos k2] at he
   rw[he] at hnx hno hcl
   by_cases k3:i=0
   all_goals
    repeat' ((first|refine nI ?_|refine aI ?_|refine tI ?_|refine fI ?_|fail);conv=>whnf)
    refine dC (Bw (F0 p q) x (by omega)) (fun _=>?_) (fun _=>?_)<;>(conv=>whnf)
    ·rename_i hm
     repeat' ((first|refine nI ?_|refine aI ?_|refine tI ?_|refine fI ?_|fail);conv=>whnf)
     exact⟨i+1,sI,⟨by omega,hnx hm⟩,by dsimp only;omega⟩
    ·rename_i hm
     exact⟨al (hno hm),rfl⟩
  ·rw[if_neg k2] at he
   rw[he] at hnx hno hcl
   by_cases k3:i=0
   all_goals
    repeat' ((first|refine nI ?_|refine aI ?_|refine tI ?_|refine fI ?_|fail);conv=>whnf)
    refine dC (Bw p.initial x (by omega)) (fun _=>?_) (fun _=>?_)<;>(conv=>whnf)
    ·rename_i hm
     repeat' ((first|refine nI ?_|refine aI ?_|refine tI ?_|refine fI ?_|fail);conv=>whnf)
     exact⟨i+1,sI,⟨by omega,hnx hm⟩,by dsimp only;omega⟩
    ·rename_i hm
     exact⟨al (hno hm),rfl⟩
 ·exact⟨av ⟨h3,by omega,h5,fun j hj=>ha j (by omega)⟩,rfl⟩
theorem vL (p:an) (q:aE) (s:aC) (c:ay) (hp:¬cp p) (hq:¬iX q) (hw:bh c=false) (hz:aJ p s=0):ab Tryz.prog 148 [.agg (aB p), .agg (cJ q), .agg (bv s), .agg (bd c)] (fun u=>u= .bool (decide (um p q s c))):=by
 have hle:=aO hp
 have hc:=br hw
 have h2:=c8 hz
 refine ab.intro ac ae Tryz.func148 rfl (by decide) ?_;(conv=>whnf)
 refine ak rfl ?_
 conv=>whnf
 refine ak rfl ?_
 conv=>whnf
 refine ak rfl ?_
 conv=>whnf
 refine ak rfl ?_
 conv=>whnf
 refine dC (ly p s c hp hw (by omega)) (fun _=>?_) (fun _=>?_)<;>(conv=>whnf)
 case refine_2=>
  rename_i h3
  exact⟨al (fun h=>h3 h.1),rfl⟩
 rename_i h3
 have hsf:=h3.snl.trans h3.fal.symm
 refine ag ?_ ?_<;>(intro h4;conv=>whnf)
 ·exact⟨al (fun h=>h4 h.2.1),rfl⟩
 refine aF.loopF ac ae (fun k:Nat=>k<=c.sent.length/\∀j,j<k->c.sent.getD j 0=0/\c.faulty.getD j 0=0) (fun k=>[(9, .int .i64 (k:Int))]) (fun _=>[]) (fun k=>c.sent.length-k) 0 ⟨by omega,fun j hj=>by omega⟩ ?_;conv=>whnf
 refine⟨sI,?_⟩
 rintro k ⟨hk,ha⟩
 conv=>whnf
 refine ag ?_ ?_<;>(intro g1;conv=>whnf)
 ·refine nI ?_
  conv=>whnf
  rw[tN]
  refine ag ?_ ?_<;>(intro g2;conv=>whnf)
  ·exact⟨al (fun h=>g2 (h.2.2.1 k (by omega)).1),rfl⟩
  refine nI ?_
  conv=>whnf
  rw[tN]
  refine ag ?_ ?_<;>(intro g3;conv=>whnf)
  ·exact⟨al (fun h=>g3 (h.2.2.1 k (by omega)).2),rfl⟩
  repeat' ((first|refine nI ?_|refine aI ?_|refine tI ?_|refine fI ?_|fail);conv=>whnf)
  refine⟨k+1,sI,⟨by omega,fun j hj=>?_⟩,by dsimp only;omega⟩
  by_cases e:j=k
  ·subst e;exact⟨by omega,by omega⟩
  ·exact ha j (by omega)
 have h5:∀j,j<c.sent.length->c.sent.getD j 0=0/\c.faulty.getD j 0=0:=fun j hj=>ha j (by omega)
 clear ha hk g1
 refine aF.loopF ac ae (fun i:Nat=>i<=c.states.length/\∀j,j<i->c.states.getD j 0∈vJ p q s j) (fun i=>[(10, .int .i64 (i:Int))]) (fun _=>[]) (fun i=>c.states.length-i) 0 ⟨by omega,fun j hj=>by omega⟩ ?_;conv=>whnf
 refine⟨sI,?_⟩
 rintro i ⟨hi,ha⟩
 conv=>whnf
 refine ag ?_ ?_<;>(intro g1;conv=>whnf)
 ·have hcl:=Bx hp hq s i
  have hnx:c.states.getD i 0∈vJ p q s i->∀j,j<i+1->c.states.getD j 0∈vJ p q s j:=fun h j hj=>by
   by_cases e:j=i
   ·subst e;exact h
   ·exact ha j (by omega)
  have hno:c.states.getD i 0∉vJ p q s i->¬um p q s c:=fun h hh=>h (hh.2.2.2 i (by omega))
  refine dI ?_
  conv=>whnf
  (refine oC (Bv p q s i hp hq (by omega)) ?_;conv=>whnf)
  refine nI ?_
  conv=>whnf
  rw[tN]
  refine dD (u4 (vJ p q s i) _ (by omega)) (fun _=>?_) (fun _=>?_)<;>(conv=>whnf)
  ·rename_i hm
   repeat' ((first|refine nI ?_|refine aI ?_|refine tI ?_|refine fI ?_|fail);conv=>whnf)
   exact⟨i+1,sI,⟨by omega,hnx hm⟩,by dsimp only;omega⟩
  ·rename_i hm
   exact⟨al (hno hm),rfl⟩
 ·exact⟨av ⟨h3,by omega,h5,fun j hj=>ha j (by omega)⟩,rfl⟩
theorem wV {p:an} {q:aE} {s:aC} (h:lQ p q s=0):aU p q=0/\aJ p s=0:=by
 unfold lQ at h
 by_cases h1:aU p q≠0
 ·rw[if_pos h1] at h;omega
 ·rw[if_neg h1] at h;exact⟨by omega,h⟩
def iv:List Int->Int
 |[]=>0
 |a::l=>a+iv l
theorem uh:∀{l:List Int} {k:Nat} (d:Int),k<l.length->iv (l.set k d)=iv l+d-l.getD k 0
 |[],k,d,h=>by simp at h
 |a::l,0,d,_=>by simp[iv];omega
 |a::l,k+1,d,h=>by
  have:=uh (l:=l) (k:=k) d (by simpa using h)
  rw[List.set_cons_succ,iv,iv,this]
  show _=_-l.getD k 0
  omega
theorem vM {n:Int}:∀{l:List Int},(∀x∈l,0<=x/\x<n)->0<=iv l/\iv l<=n*l.length
 |[],_=>by simp[iv]
 |a::l,h=>by
  have b:=vM (l:=l) fun x hx=>h x (List.mem_cons_of_mem _ hx)
  have c:=h a List.mem_cons_self
  rw[iv,List.length_cons,Int.natCast_add,Int.mul_add]
  omega
theorem r4 {p:an} {s:aC} {c:ay} {x:cj} (ht:c9 p) (he:iZ p s c x false):iv c.states<iv (d9 c (cN p x) x).states:=by
 obtain⟨⟨⟨r1,r2⟩,⟨q1,q2⟩⟩,hs,_,_⟩:=he
 have hk:=ht.2.2 x.rule.toNat (by omega)
 rw[qF (show(cN p x).kind=1 from hk.1) ⟨q1,q2⟩,uh _ (by omega),hs]
 have:=hk.2.1
 unfold cN
 omega
theorem gT {p:an} {s:aC} {c:ay} (h:dk p s c):0<=iv c.states/\iv c.states<=48:=by
 have hl:=h.vc.len
 have hsz:=h.sz
 have hm:io p s<=8:=by unfold io;split<;>omega
 have hw:=(bk h.val).len
 have:=vM (l:=c.states) (n:=p.states.length) fun x hx=>by
  obtain⟨i,hi,e⟩:=List.getElem_of_mem hx
  have:=h.vc.sta i hi
  rwa [au 0 hi,e] at this
 have h2:(p.states.length:Int)*c.states.length<=6*8:=Int.mul_le_mul (by omega) (by omega) (by omega) (by omega)
 omega
theorem wW {p:an} {s:aC} {c:ay} {x:cj} {f:Bool} (ht:c9 p) (hv:aw p=0) (he:iZ p s c x f):K1 p x:=FY ht hv (ri:=x.rule) he.1.1 0
theorem DE (p:an) (s:aC) (r:Rn):∃l e,Eu p s r=pC l e:=by
 unfold Eu
 split
 ·exact⟨[],_,rfl⟩
 ·rename_i hz
  split
  ·rename_i hv
   have hw:=rZ (p:=p) (s:=s) (Classical.not_not.1 hz) hv
   obtain⟨l,e,h1,_⟩:=rT p s r.steps [r.start] r.start (by simpa using hw) hw
   exact⟨l,e,h1⟩
  ·exact⟨[],_,rfl⟩
theorem DF (p:an) (s:aC) (c:ay) (l:List cj) (h:dk p s c) (ht:c9 p) (hl:l.length<=140737488355328):ab Tryz.prog 75 [.agg (aB p), .agg (bv s), .agg (bd c), .sl cH ef l] (fun u=>u=rp p s [c] c l):=by
 refine ab.rp (Br h.wide l) ?_
 refine ab.intro ac ae Tryz.func75 rfl (by decide) ?_;(conv=>whnf)
 refine ak rfl ?_
 conv=>whnf
 refine ak rfl ?_
 conv=>whnf
 refine ak rfl ?_
 conv=>whnf
 refine am.news 400 (vE 5 9 13 17) (o9 c) (mX c) (rQ c h.wide) (aa) rfl yh ?_
 conv=>whnf
 refine bD aX bd [c] rfl ?_
 conv=>whnf
 refine aF.loopF ac ae (fun z:Nat×List ay×ay=>z.1<=l.length/\z.2.1.length=z.1+1/\z.2.1.getD z.1 aX=z.2.2/\(dk p s z.2.2/\iv c.states+(z.1:Int)<=iv z.2.2.states)/\rp p s [c] c l=rp p s z.2.1 z.2.2 (l.drop z.1)) (fun z=>[(21, .int .i64 (z.1:Int)),(17, .top),(18, .top),(10, .row 1000 z.2.1.length 6)]) (fun z=>[(1000,FT z.2.1)]) (fun z=>l.length-z.1) (0,[c],c) ⟨Nat.zero_le _,rfl,rfl,⟨h,by dsimp only;omega⟩,rfl⟩ ?_;conv=>whnf
 refine⟨aR.by_ [(1000, .old 18)] _ 400 rfl (aa) (aa),?_⟩
 rintro⟨k,acc,cur⟩ ⟨h1,h2,h3,⟨h4,h6⟩,h5⟩
 dsimp only at h1 h2 h3 h4 h5 h6⊢
 have hpm:=gT h4
 have hp0:=gT h
 conv=>whnf
 refine ag ?_ ?_<;>(intro g1;conv=>whnf)
 ·rw[Bp (by omega),rp] at h5
  refine nI ?_
  rw[tN]
  generalize l.getD k cH=x at h5
  conv=>whnf
  refine dI ?_
  conv=>whnf
  refine aI ?_
  conv=>whnf
  refine nI ?_
  rw[show((acc.length:Int)-1).toNat=k by omega]
  conv=>whnf
  rw[h3]
  (refine oC (CO p s cur h4.wide) ?_;conv=>whnf)
  refine dC (o8 p s cur x false h4) (fun _=>?_) (fun _=>?_)<;>(conv=>whnf)
  case refine_2=>
   rename_i hn
   rw[if_neg hn] at h5
   exact⟨.inr ⟨9,rfl,h5⟩,rfl⟩
  rename_i he
  rw[if_pos he] at h5
  have hup:=r4 ht he
  have hA:=Bj p s cur x h4 he (wW ht h4.val he)
  have hN:=fun ha=>h4.next he ha
  unfold cN at h5 hup
  generalize p.rules.getD x.rule.toNat aq=r at hA h5 hN hup
  by_cases ha:kq cur r x
  ·rw[if_pos ha] at h5
   refine am.news 400 (vE 1001 1002 1003 1004) (o9 (d9 cur r x)) (.tup [mX (d9 cur r x), .int .i64 0]) hA (aa) rfl (fun u M' hR=>?_) ?_
   ·rcases hR with ⟨_,hT⟩|⟨hn,_⟩
    ·exact Ht u M' hT
    ·exact absurd ha hn
   conv=>whnf
   repeat' ((first|refine nI ?_|refine aI ?_|refine tI ?_|refine fI ?_|fail);conv=>whnf)
   refine bD aX bd [d9 cur r x] rfl ?_
   conv=>whnf
   refine bQ [d9 cur r x] rfl lI ?_
   conv=>whnf
   repeat' ((first|refine nI ?_|refine aI ?_|refine tI ?_|refine fI ?_|fail);conv=>whnf)
   refine⟨(k+1,acc++[d9 cur r x],d9 cur r x),aR.by_ [(1000, .old 50)] _ 400 rfl (aa) (aa),⟨by dsimp only;omega,by simp;omega,by dsimp only;rw[<-h2];exact mB _ _,⟨hN ha,by dsimp only;omega⟩,h5⟩,by dsimp only;omega⟩
  ·rw[if_neg ha] at h5
   refine am.news 400 [] [] (.tup [.agg Bg, .int .i64 4]) hA (aa) rfl (fun u M' hR=>?_) ?_
   ·rcases hR with ⟨hy,_⟩|⟨_,rfl⟩
    ·exact absurd hy ha
    ·exact⟨trivial,aa⟩
   conv=>whnf
   repeat' ((first|refine nI ?_|refine aI ?_|refine tI ?_|refine fI ?_|fail);conv=>whnf)
   exact⟨.inr ⟨4,rfl,h5⟩,rfl⟩
 ·rw[List.drop_of_length_le (by omega)] at h5
  exact⟨.inl h5.symm,rfl⟩
theorem DG (p:an) (s:aC) (c:ay) (l:List cj) (h:dk p s c) (ht:c9 p) (hl:l.length<=140737488355328):ab Tryz.prog 146 [.agg (aB p), .agg (bv s), .agg (bd c), .sl cH ef l] (fun u=>u=rp p s [c] c l):=by
 refine ab.rp (Br h.wide l) ?_
 refine ab.intro ac ae Tryz.func146 rfl (by decide) ?_;(conv=>whnf)
 refine ak rfl ?_
 conv=>whnf
 refine ak rfl ?_
 conv=>whnf
 refine ak rfl ?_
 conv=>whnf
 (refine oP (GT c h.wide) ?_;conv=>whnf)
 refine bD aX bd [c] rfl ?_
 conv=>whnf
 refine aF.loopF ac ae (fun z:Nat×List ay×ay=>z.1<=l.length/\z.2.1.length=z.1+1/\z.2.1.getD z.1 aX=z.2.2/\(dk p s z.2.2/\iv c.states+(z.1:Int)<=iv z.2.2.states)/\rp p s [c] c l=rp p s z.2.1 z.2.2 (l.drop z.1)) (fun z=>[(11, .int .i64 (z.1:Int)),(16, .top),(10, .row 1000 z.2.1.length 6)]) (fun z=>[(1000,FT z.2.1)]) (fun z=>l.length-z.1) (0,[c],c) ⟨Nat.zero_le _,rfl,rfl,⟨h,by dsimp only;omega⟩,rfl⟩ ?_;conv=>whnf
 refine⟨aR.by_ [(1000, .old 16)] _ 400 rfl (aa) (aa),?_⟩
 rintro⟨k,acc,cur⟩ ⟨h1,h2,h3,⟨h4,h6⟩,h5⟩
 dsimp only at h1 h2 h3 h4 h5 h6⊢
 have hpm:=gT h4
 have hp0:=gT h
 conv=>whnf
 refine ag ?_ ?_<;>(intro g1;conv=>whnf)
 ·rw[Bp (by omega),rp] at h5
  refine dI ?_
  conv=>whnf
  refine aI ?_
  conv=>whnf
  refine nI ?_
  rw[show((acc.length:Int)-1).toNat=k by omega]
  conv=>whnf
  rw[h3]
  refine nI ?_
  rw[tN]
  generalize l.getD k cH=x at h5
  conv=>whnf
  by_cases he:iZ p s cur x false
  case neg=>
   rw[if_neg he] at h5
   (refine oC (Bm p s cur x h4.big h4.wide h4.vcon he) ?_;conv=>whnf)
   repeat' ((first|refine nI ?_|refine aI ?_|refine tI ?_|refine fI ?_|fail);conv=>whnf)
   exact⟨.inr ⟨9,rfl,h5⟩,rfl⟩
  rw[if_pos he] at h5
  have hup:=r4 ht he
  have hA:=Bn p s cur x h4.big h4.wide h4.vcon he (wW ht h4.val he)
  have hA2:=Bo p s cur x h4.big h4.wide h4.vcon he (wW ht h4.val he)
  have hN:=fun ha=>h4.next he ha
  unfold cN at h5 hup
  generalize p.rules.getD x.rule.toNat aq=r at hA hA2 h5 hN hup
  by_cases ha:kq cur r x
  ·rw[if_pos ha] at h5
   (refine oC (hA ha) ?_;conv=>whnf)
   repeat' ((first|refine nI ?_|refine aI ?_|refine tI ?_|refine fI ?_|fail);conv=>whnf)
   refine bD aX bd [d9 cur r x] rfl ?_
   conv=>whnf
   refine bQ [d9 cur r x] rfl lI ?_
   conv=>whnf
   repeat' ((first|refine nI ?_|refine aI ?_|refine tI ?_|refine fI ?_|fail);conv=>whnf)
   refine⟨(k+1,acc++[d9 cur r x],d9 cur r x),aR.by_ [(1000, .old 45)] _ 400 rfl (aa) (aa),⟨by dsimp only;omega,by simp;omega,by dsimp only;rw[<-h2];exact mB _ _,⟨hN ha,by dsimp only;omega⟩,h5⟩,by dsimp only;omega⟩
  ·rw[if_neg ha] at h5
   (refine oC (hA2 ha) ?_;conv=>whnf)
   repeat' ((first|refine nI ?_|refine aI ?_|refine tI ?_|refine fI ?_|fail);conv=>whnf)
   exact⟨.inr ⟨4,rfl,h5⟩,rfl⟩
 ·rw[List.drop_of_length_le (by omega)] at h5
  exact⟨.inl h5.symm,rfl⟩
theorem DH (p:an) (s:aC) (r:Rn) (hok:g7 p) (hval:aw p=0) (ht:c9 p) (hc:yk r.start) (hl:r.steps.length<=140737488355328):ab Tryz.prog 64 [.agg (aB p), .agg (bv s), .agg (wU r)] (fun u=>u=Eu p s r):=by
 have he:=Eu.eq_1 p s r
 have hp:=dE hval
 obtain⟨m,e,hm⟩:=DE p s r
 refine ab.rp ⟨m,e,hm⟩ ?_
 refine ab.intro ac ae Tryz.func64 rfl (by decide) ?_;(conv=>whnf)
 refine ak rfl ?_
 conv=>whnf
 refine ak rfl ?_
 conv=>whnf
 refine ak rfl ?_
 conv=>whnf
 (refine oP (FU p s hok) ?_;conv=>whnf)
 refine ag ?_ ?_<;>(intro h1;conv=>whnf)
 ·rw[if_pos h1] at he;exact⟨.inr ⟨_,rfl,he⟩,rfl⟩
 rw[if_neg h1] at he
 have h2:=c8 (p:=p) (s:=s) (by omega)
 refine dC (rY p s r.start hp hc (by omega)) (fun _=>?_) (fun _=>?_)<;>(conv=>whnf)
 ·rename_i h3
  rw[if_pos h3] at he
  have hw:=rZ (p:=p) (s:=s) (by omega) h3
  have hv:km p s r.start=0:=by unfold km;rw[if_pos h3]
  have h:dk p s r.start:=dk.of hp hw (by unfold bW;rw[if_neg h1];exact hv)
  (refine oP (DG p s r.start r.steps h ht hl) ?_;conv=>whnf)
  obtain⟨m',e',hm'⟩:=Br (p:=p) (s:=s) hw r.steps
  rw[hm'] at he⊢
  rw[he]
  conv=>whnf
  exact⟨.inl rfl,rfl⟩
 ·rename_i h3
  rw[if_neg h3] at he
  exact⟨.inr ⟨_,rfl,he⟩,rfl⟩
end Go.Proofs.YtekmminpfhacpaaGreatDoor
