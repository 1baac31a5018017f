import Derived.Test.YtekmminpfhacpaaGreatDoorA1
import Derived.Test.YtekmminpfhacpaaGreatDoorM7
import Derived.Test.YtekmminpfhacpaaGreatDoorGA
import Derived.Test.YtekmminpfhacpaaGreatDoorHA
set_option linter.unusedVariables false
set_option linter.unusedSimpArgs false
namespace Go.Proofs.YtekmminpfhacpaaGreatDoor
set_option maxRecDepth 100000
set_option maxHeartbeats 16000000
theorem JW {p:an} {s:aJ} {c:az} (h:bA c=false) (l:List bH):∃m e,rp p s [c] c l=vS m e:=by
 obtain⟨m,e,h1,_⟩:=u9 p s l [c] c (by simpa using h) h
 exact⟨m,e,h1⟩
structure Rn where
 start:az
 steps:List bH
def mA (r:Rn):List AV:=aW r.start++[.sl bI dG r.steps]
noncomputable def Ha (p:an) (s:aJ) (r:Rn):AV:=if cr p s≠0 then vS [] (cr p s) else if VC p s r.start then rp p s [r.start] r.start r.steps else vS [] 10
def ct (p:an) (s:aJ):az->List bH->Prop
 |_,[]=>True
 |cur,x::xs=>mL p s cur x false/\nV cur (ce p x) x/\ct p s (eD cur (ce p x) x) xs
noncomputable instance decRun (p:an) (s:aJ) (c:az) (l:List bH):Decidable (ct p s c l):=Classical.propDecidable _
def tr (p:an):az->List bH->List az
 |_,[]=>[]
 |cur,x::xs=>eD cur (ce p x) x::tr p (eD cur (ce p x) x) xs
theorem xC {p:an} {s:aJ}:∀{xs:List bH} {acc:List az} {cur:az},ct p s cur xs->rp p s acc cur xs=vS (acc++tr p cur xs) 0
 |[],acc,cur,_=>by simp[rp,tr]
 |x::xs,acc,cur,⟨h1,h2,h3⟩=>by
  rw[rp,if_pos h1,if_pos h2,xC h3,tr,List.append_assoc]
  rfl
theorem A0 {p:an} {s:aJ}:∀{xs:List bH} {acc:List az} {cur:az},¬ct p s cur xs->∃e,e≠0/\rp p s acc cur xs=vS [] e
 |[],acc,cur,h=>absurd trivial h
 |x::xs,acc,cur,h=>by
  rw[rp]
  by_cases h1:mL p s cur x false
  ·rw[if_pos h1]
   by_cases h2:nV cur (ce p x) x
   ·rw[if_pos h2]
    exact A0 fun h3=>h ⟨h1,h2,h3⟩
   ·rw[if_neg h2];exact⟨4,by decide,rfl⟩
  ·rw[if_neg h1];exact⟨9,by decide,rfl⟩
theorem Gj {p:an}:∀(xs:List bH) (cur:az),(tr p cur xs).length=xs.length
 |[],_=>rfl
 |x::xs,cur=>by simp only[tr,List.length_cons];rw[Gj xs]
def cY (p:an) (c:az) (l:List bH):List az:=c::tr p c l
theorem fM (p:an) (c:az) (l:List bH):(cY p c l).length=l.length+1:=by simp[cY,Gj]
theorem jb {p:an} {s:aJ}:∀{xs:List bH} {cur:az},dx p s cur->ct p s cur xs->∀i,i<=xs.length->dx p s ((cY p cur xs).getD i aU)
 |_,cur,h,_,0,_=>h
 |[],_,_,_,i+1,hi=>by simp at hi
 |x::xs,cur,h,⟨h1,h2,h3⟩,i+1,hi=>by
  have:=jb (h.next h1 h2) h3 i (by simpa using hi)
  exact this
theorem iJ {p:an} {s:aJ}:∀{xs:List bH} {cur:az},dx p s cur->ct p s cur xs->∀i,i<xs.length->
  mL p s ((cY p cur xs).getD i aU) (xs.getD i bI) false/\nV ((cY p cur xs).getD i aU) (ce p (xs.getD i bI)) (xs.getD i bI)/\(cY p cur xs).getD (i+1) aU=eD ((cY p cur xs).getD i aU) (ce p (xs.getD i bI)) (xs.getD i bI)
 |[],_,_,_,_,hi=>by simp at hi
 |x::xs,cur,h,⟨h1,h2,h3⟩,0,_=>⟨h1,h2,rfl⟩
 |x::xs,cur,h,⟨h1,h2,h3⟩,i+1,hi=>iJ (h.next h1 h2) h3 i (by simpa using hi)
theorem xD {p:an} (h:aA p=0):0<p.initial.length/\bC p.initial p.states.length=0/\bC p.leader p.states.length=0:=by
 unfold aA at h
 have ht:w5 p=0:=by
  (repeat' split at h)<;>first|exact h|omega
 have hz:=bB ht
 have h1:=hz (if p.initial.length=0 then 1 else 0) (by simp)
 refine⟨?_,hz _ (by simp),hz _ (by simp)⟩
 split at h1<;>omega
theorem xE {p:an} {q:aG} (h:aP p q=0):aA p=0:=by
 unfold aP at h
 by_cases h1:aA p≠0
 ·rw[if_pos h1] at h;omega
 ·omega
def Nm (p:an) (q:aG):List Int:=if 0<q.start.length then q.start else p.initial
def CL (p:an) (q:aG) (s:aJ) (i:Nat):List Int:=if i=0/\0<p.leader.length then p.leader else if(i:Int)<s.n-s.f then Nm p q else p.initial
theorem r5 (l:List Int) (h0:0<l.length) (hl:l.length<=1000):ab Tryz.prog 39 [.sl 0 ao l] (fun u=>u= .sl 0 ao l):=by
 refine ab.intro ae ag Tryz.func39 rfl (by decide) ?_;(conv=>whnf)
 refine bX (fun e=>by rw[e] at h0;simp at h0) ?_
 conv=>whnf
 refine cf 0 ao [] rfl ?_
 conv=>whnf
 refine cz _ rfl (by simp only[List.length_nil];omega) ?_
 conv=>whnf
 exact⟨rfl,rfl⟩
theorem I1 (p:an) (q:aG) (hp:¬dX p) (hq:¬mK q) (hv:aP p q=0):ab Tryz.prog 101 [.agg (aR p), .agg (df q)] (fun u=>u= .tup [.sl 0 ao (Nm p q), .int .i64 0]):=by
 have hle:=bL hp
 have hlq:=kg hq
 have hi:=xD (xE hv)
 have he:=Nm.eq_1 p q
 refine ab.intro ae ag Tryz.func101 rfl (by decide) ?_;(conv=>whnf)
 refine al rfl ?_
 conv=>whnf
 refine al rfl ?_
 conv=>whnf
 (refine oP (jA p q (lj hp) (yN hq)) ?_;conv=>whnf)
 refine fI ?_
 conv=>whnf
 refine ah ?_ ?_<;>(intro h1;conv=>whnf)
 ·rw[if_pos (by omega)] at he
  (refine oP (r5 q.start (by omega) (by omega)) ?_;conv=>whnf)
  exact⟨he▸rfl,rfl⟩
 ·rw[if_neg (by omega)] at he
  (refine oP (r5 p.initial (by omega) (by omega)) ?_;conv=>whnf)
  exact⟨he▸rfl,rfl⟩
noncomputable def pT (p:an) (q:aG) (s:aJ):Int:=if aP p q≠0 then aP p q else cr p s
theorem tG (p:an) (q:aG) (s:aJ) (hp:¬dX p) (hq:¬mK q):ab Tryz.prog 73 [.agg (aR p), .agg (df q), .agg (cq s)] (fun u=>u= .int .i64 (pT p q s)):=by
 have he:=pT.eq_1 p q s
 refine ab.intro ae ag Tryz.func73 rfl (by decide) ?_;(conv=>whnf)
 refine al rfl ?_
 conv=>whnf
 refine al rfl ?_
 conv=>whnf
 refine al rfl ?_
 conv=>whnf
 (refine oP (jA p q (lj hp) (yN hq)) ?_;conv=>whnf)
 refine ah ?_ ?_<;>(intro h1;conv=>whnf)
 ·rw[if_pos h1] at he;exact⟨he▸rfl,rfl⟩
 ·rw[if_neg h1] at he
  (refine oP (rj p s hp) ?_;conv=>whnf)
  exact⟨he▸rfl,rfl⟩
def CM (p:an) (q:aG) (s:aJ) (c:az):Prop:=VC p s c/\c.value=0/\(∀j,j<c.sent.length->c.sent.getD j 0=0/\c.faulty.getD j 0=0)/\∀i,i<c.states.length->c.states.getD i 0∈CL p q s i
noncomputable instance decIsI (p:an) (q:aG) (s:aJ) (c:az):Decidable (CM p q s c):=Classical.propDecidable _
theorem Gk (l:List Int) (s:Int) (hl:l.length<=1000):ab Tryz.prog 161 [.sl 0 ao l, .int .i64 s] (fun u=>u= .bool (decide (s∈l))):=by
 refine ab.intro ae ag Tryz.func161 rfl (by decide) ?_;(conv=>whnf)
 refine aQ.loopF ae ag (fun k:Nat=>k<=l.length/\s∉l.take k) (fun k=>[(9, .int .i64 (k:Int))]) (fun _=>[]) (fun k=>l.length-k) 0 ⟨by omega,by simp⟩ ?_;conv=>whnf
 refine⟨sI,?_⟩
 rintro k ⟨hk,ha⟩
 conv=>whnf
 repeat' ((first|refine nI ?_|refine aI ?_|refine fb trivial (by omega) ?_|refine fv trivial (by omega) ?_|refine dI ?_|refine dR ?_|refine dP ?_|refine al rfl ?_|refine pI _ rfl ?_|refine aw _ rfl ?_|refine tI ?_|refine fI ?_|refine ah (fun _=>?_) (fun _=>?_))<;>conv=>whnf)
 ·rename_i h1 h2
  rw[tN] at h2
  refine⟨aH ?_,rfl⟩
  rw[h2,gD,gL (by omega)]
  exact List.getElem_mem _
 ·rename_i h1 h2
  rw[tN] at h2
  refine⟨k+1,sI,⟨by omega,?_⟩,by dsimp only;omega⟩
  rw[List.take_succ_eq_append_getElem (by omega),List.mem_append,List.mem_singleton,not_or]
  refine⟨ha,fun e=>h2 ?_⟩
  rw[gD,gL (by omega)]
  exact e
 ·obtain rfl:k=l.length:=by omega
  rw[List.take_length] at ha
  exact⟨au ha,rfl⟩
theorem LQ {p:an} {q:aG} (hp:¬dX p) (hq:¬mK q) (s:aJ) (k:Nat):(CL p q s k).length<=1000:=by
 have hle:=bL hp
 have hlq:=kg hq
 unfold CL Nm
 (repeat' split)<;>omega
theorem r6 (p:an) (q:aG) (s:aJ) (c:az) (hp:¬dX p) (hq:¬mK q) (hw:bA c=false) (hv:aP p q=0) (hz:cr p s=0):ab Tryz.prog 74 [.agg (aR p), .agg (df q), .agg (cq s), .agg (aW c)] (fun u=>u= .bool (decide (CM p q s c))):=by
 have hle:=bL hp
 have hc:=bE hw
 have h2:=iy hz
 refine ab.intro ae ag Tryz.func74 rfl (by decide) ?_;(conv=>whnf)
 refine al rfl ?_
 conv=>whnf
 refine al rfl ?_
 conv=>whnf
 refine al rfl ?_
 conv=>whnf
 refine al rfl ?_
 conv=>whnf
 have hV:=nq p s c hp hw (by omega)
 by_cases h3:VC p s c
 case neg=>
  have hv:pB p s c=1:=by unfold pB;rw[if_neg h3]
  rw[hv] at hV
  (refine oP (hV) ?_;conv=>whnf)
  refine tI ?_
  conv=>whnf
  exact⟨au (fun h=>h3 h.1),rfl⟩
 have hv0:pB p s c=0:=by unfold pB;rw[if_pos h3]
 rw[hv0] at hV
 have hsf:=h3.snl.trans h3.fal.symm
 (refine oP (hV) ?_;conv=>whnf)
 refine fI ?_
 conv=>whnf
 refine ah ?_ ?_<;>(intro h4;conv=>whnf)
 ·exact⟨au (fun h=>h4 h.2.1),rfl⟩
 refine aQ.loopF ae ag (fun k:Nat=>k<=c.sent.length/\∀j,j<k->c.sent.getD j 0=0/\c.faulty.getD j 0=0) (fun k=>[(28, .int .i64 (k:Int))]) (fun _=>[]) (fun k=>c.sent.length-k) 0 ⟨by omega,fun j hj=>by omega⟩ ?_;conv=>whnf
 refine⟨sI,?_⟩
 rintro k ⟨hk,ha⟩
 conv=>whnf
 refine ah ?_ ?_<;>(intro g1;conv=>whnf)
 ·refine nI ?_
  conv=>whnf
  rw[tN]
  refine ah ?_ ?_<;>(intro g2;conv=>whnf)
  ·exact⟨au (fun h=>g2 (h.2.2.1 k (by omega)).1),rfl⟩
  refine nI ?_
  conv=>whnf
  rw[tN]
  refine ah ?_ ?_<;>(intro g3;conv=>whnf)
  ·exact⟨au (fun h=>g3 (h.2.2.1 k (by omega)).2),rfl⟩
  repeat' ((first|refine nI ?_|refine aI ?_|refine tI ?_|refine fI ?_|fail);conv=>whnf)
  refine⟨k+1,sI,⟨by omega,fun j hj=>?_⟩,by dsimp only;omega⟩
  by_cases e:j=k
  ·subst e;exact⟨by omega,by omega⟩
  ·exact ha j (by omega)
 have h5:∀j,j<c.sent.length->c.sent.getD j 0=0/\c.faulty.getD j 0=0:=fun j hj=>ha j (by omega)
 clear ha hk g1
 (refine oP (I1 p q hp hq hv) ?_;conv=>whnf)
 refine aQ.loopF ae ag (fun i:Nat=>i<=c.states.length/\∀j,j<i->c.states.getD j 0∈CL p q s j) (fun i=>[(55, .int .i64 (i:Int))]) (fun _=>[]) (fun i=>c.states.length-i) 0 ⟨by omega,fun j hj=>by omega⟩ ?_;conv=>whnf
 refine⟨sI,?_⟩
 rintro i ⟨hi,ha⟩
 conv=>whnf
 refine ah ?_ ?_<;>(intro g1;conv=>whnf)
 ·have he:=CL.eq_1 p q s i
  have hcl:=LQ hp hq s i
  have hcor:=h3.cor
  refine nI ?_
  conv=>whnf
  rw[tN]
  have hnx:c.states.getD i 0∈CL p q s i->∀j,j<i+1->c.states.getD j 0∈CL p q s j:=fun h j hj=>by
   by_cases e:j=i
   ·subst e;exact h
   ·exact ha j (by omega)
  have hno:c.states.getD i 0∉CL p q s i->¬CM p q s c:=fun h hh=>h (hh.2.2.2 i (by omega))
  generalize c.states.getD i 0=x at hnx hno
  by_cases k1:i=0/\0<p.leader.length
  ·rw[if_pos k1] at he
   rw[he] at hnx hno hcl
   repeat' ((first|refine nI ?_|refine aI ?_|refine tI ?_|refine fI ?_|fail);conv=>whnf)
   refine dC (Gk p.leader x (by omega)) (fun _=>?_) (fun _=>?_)<;>(conv=>whnf)
   ·rename_i hm
    repeat' ((first|refine nI ?_|refine aI ?_|refine tI ?_|refine fI ?_|fail);conv=>whnf)
    exact⟨i+1,sI,⟨by omega,hnx hm⟩,by dsimp only;omega⟩
   ·rename_i hm
    exact⟨au (hno hm),rfl⟩
  rw[if_neg k1] at he
  by_cases k2:(i:Int)<s.n-s.f
  ·rw[if_pos k2] at he
   rw[he] at hnx hno hcl
   by_cases k3:i=0
   all_goals
    repeat' ((first|refine nI ?_|refine aI ?_|refine tI ?_|refine fI ?_|fail);conv=>whnf)
    refine dC (Gk (Nm p q) x (by omega)) (fun _=>?_) (fun _=>?_)<;>(conv=>whnf)
    ·rename_i hm
     repeat' ((first|refine nI ?_|refine aI ?_|refine tI ?_|refine fI ?_|fail);conv=>whnf)
     exact⟨i+1,sI,⟨by omega,hnx hm⟩,by dsimp only;omega⟩
    ·rename_i hm
     exact⟨au (hno hm),rfl⟩
  ·rw[if_neg k2] at he
   rw[he] at hnx hno hcl
   by_cases k3:i=0
   all_goals
    repeat' ((first|refine nI ?_|refine aI ?_|refine tI ?_|refine fI ?_|fail);conv=>whnf)
    refine dC (Gk p.initial x (by omega)) (fun _=>?_) (fun _=>?_)<;>(conv=>whnf)
    ·rename_i hm
     repeat' ((first|refine nI ?_|refine aI ?_|refine tI ?_|refine fI ?_|fail);conv=>whnf)
     exact⟨i+1,sI,⟨by omega,hnx hm⟩,by dsimp only;omega⟩
    ·rename_i hm
     exact⟨au (hno hm),rfl⟩
 ·exact⟨aH ⟨h3,by omega,h5,fun j hj=>ha j (by omega)⟩,rfl⟩
theorem A7 {p:an} {q:aG} {s:aJ} (h:pT p q s=0):aP p q=0/\cr p s=0:=by
 unfold pT at h
 by_cases h1:aP p q≠0
 ·rw[if_pos h1] at h;omega
 ·rw[if_neg h1] at h;exact⟨by omega,h⟩
def lG:List Int->Int
 |[]=>0
 |a::l=>a+lG l
theorem xF:∀{l:List Int} {k:Nat} (d:Int),k<l.length->lG (l.set k d)=lG l+d-l.getD k 0
 |[],k,d,h=>by simp at h
 |a::l,0,d,_=>by simp[lG];omega
 |a::l,k+1,d,h=>by
  have:=xF (l:=l) (k:=k) d (by simpa using h)
  rw[List.set_cons_succ,lG,lG,this]
  show _=_-l.getD k 0
  omega
theorem Gm {n:Int}:∀{l:List Int},(∀x∈l,0<=x/\x<n)->0<=lG l/\lG l<=n*l.length
 |[],_=>by simp[lG]
 |a::l,h=>by
  have b:=Gm (l:=l) fun x hx=>h x (List.mem_cons_of_mem _ hx)
  have c:=h a List.mem_cons_self
  rw[lG,List.length_cons,Int.natCast_add,Int.mul_add]
  omega
theorem Gn {p:an} {s:aJ} {c:az} {x:bH} (ht:dZ p) (he:mL p s c x false):lG c.states<lG (eD c (ce p x) x).states:=by
 obtain⟨⟨⟨r1,r2⟩,⟨q1,q2⟩⟩,hs,_,_⟩:=he
 have hk:=ht.2.2 x.rule.toNat (by omega)
 rw[l9 (show(ce p x).kind=1 from hk.1) ⟨q1,q2⟩,xF _ (by omega),hs]
 have:=hk.2.1
 unfold ce
 omega
theorem n6 {p:an} {s:aJ} {c:az} (h:dx p s c):0<=lG c.states/\lG c.states<=48:=by
 have hl:=h.vc.len
 have hsz:=h.sz
 have hm:gk p s<=8:=by unfold gk;split<;>omega
 have hw:=(aL h.val).len
 have:=Gm (l:=c.states) (n:=p.states.length) fun x hx=>by
  obtain⟨i,hi,e⟩:=List.getElem_of_mem hx
  have:=h.vc.sta i hi
  rwa [av 0 hi,e] at this
 have h2:(p.states.length:Int)*c.states.length<=6*8:=Int.mul_le_mul (by omega) (by omega) (by omega) (by omega)
 omega
theorem Nn {p:an} {s:aJ} {c:az} {x:bH} {f:Bool} (ht:dZ p) (hv:aA p=0) (he:mL p s c x f):K1 p x:=F3 ht hv (ri:=x.rule) he.1.1 0
theorem I2 (p:an) (s:aJ) (r:Rn):∃l e,Ha p s r=vS l e:=by
 unfold Ha
 split
 ·exact⟨[],_,rfl⟩
 ·rename_i hz
  split
  ·rename_i hv
   have hw:=ve (p:=p) (s:=s) (Classical.not_not.1 hz) hv
   obtain⟨l,e,h1,_⟩:=u9 p s r.steps [r.start] r.start (by simpa using hw) hw
   exact⟨l,e,h1⟩
  ·exact⟨[],_,rfl⟩
theorem vp (p:an) (s:aJ) (c:az) (l:List bH) (h:dx p s c) (ht:dZ p) (hl:l.length<=140737488355328):ab Tryz.prog 75 [.agg (aR p), .agg (cq s), .agg (aW c), .sl bI dG l] (fun u=>u=rp p s [c] c l):=by
 refine ab.rp (JW h.wide l) ?_
 refine ab.intro ae ag Tryz.func75 rfl (by decide) ?_;(conv=>whnf)
 refine al rfl ?_
 conv=>whnf
 refine al rfl ?_
 conv=>whnf
 refine al rfl ?_
 conv=>whnf
 refine am.news 400 (zm 5 9 13 17) (rP c) (pS c) (rQ c h.wide) (aa) rfl FV ?_
 conv=>whnf
 refine cf aU aW [c] rfl ?_
 conv=>whnf
 refine aQ.loopF ae ag (fun z:Nat×List az×az=>z.1<=l.length/\z.2.1.length=z.1+1/\z.2.1.getD z.1 aU=z.2.2/\(dx p s z.2.2/\lG c.states+(z.1:Int)<=lG z.2.2.states)/\rp p s [c] c l=rp p s z.2.1 z.2.2 (l.drop z.1)) (fun z=>[(21, .int .i64 (z.1:Int)),(17, .top),(18, .top),(10, .row 1000 z.2.1.length 6)]) (fun z=>[(1000,Oi z.2.1)]) (fun z=>l.length-z.1) (0,[c],c) ⟨Nat.zero_le _,rfl,rfl,⟨h,by dsimp only;omega⟩,rfl⟩ ?_;conv=>whnf
 refine⟨bn.by_ [(1000, .old 18)] _ 400 rfl (aa) (aa),?_⟩
 rintro⟨k,acc,cur⟩ ⟨h1,h2,h3,⟨h4,h6⟩,h5⟩
 dsimp only at h1 h2 h3 h4 h5 h6⊢
 have hpm:=n6 h4
 have hp0:=n6 h
 conv=>whnf
 refine ah ?_ ?_<;>(intro g1;conv=>whnf)
 ·rw[Nj (by omega),rp] at h5
  refine nI ?_
  rw[tN]
  generalize l.getD k bI=x at h5
  conv=>whnf
  refine dI ?_
  conv=>whnf
  refine aI ?_
  conv=>whnf
  refine nI ?_
  rw[show((acc.length:Int)-1).toNat=k by omega]
  conv=>whnf
  rw[h3]
  (refine oC (EE p s cur h4.wide) ?_;conv=>whnf)
  refine dC (lB p s cur x false h4) (fun _=>?_) (fun _=>?_)<;>(conv=>whnf)
  case refine_2=>
   rename_i hn
   rw[if_neg hn] at h5
   exact⟨.inr ⟨9,rfl,h5⟩,rfl⟩
  rename_i he
  rw[if_pos he] at h5
  have hup:=Gn ht he
  have hA:=zn p s cur x h4 he (Nn ht h4.val he)
  have hN:=fun ha=>h4.next he ha
  unfold ce at h5 hup
  generalize p.rules.getD x.rule.toNat ap=r at hA h5 hN hup
  by_cases ha:nV cur r x
  ·rw[if_pos ha] at h5
   refine am.news 400 (zm 1001 1002 1003 1004) (rP (eD cur r x)) (.tup [pS (eD cur r x), .int .i64 0]) hA (aa) rfl (fun u M' hR=>?_) ?_
   ·rcases hR with ⟨_,hT⟩|⟨hn,_⟩
    ·exact LA u M' hT
    ·exact absurd ha hn
   conv=>whnf
   repeat' ((first|refine nI ?_|refine aI ?_|refine tI ?_|refine fI ?_|fail);conv=>whnf)
   refine cf aU aW [eD cur r x] rfl ?_
   conv=>whnf
   refine cz [eD cur r x] rfl lI ?_
   conv=>whnf
   repeat' ((first|refine nI ?_|refine aI ?_|refine tI ?_|refine fI ?_|fail);conv=>whnf)
   refine⟨(k+1,acc++[eD cur r x],eD cur r x),bn.by_ [(1000, .old 50)] _ 400 rfl (aa) (aa),⟨by dsimp only;omega,by simp;omega,by dsimp only;rw[<-h2];exact CG _ _,⟨hN ha,by dsimp only;omega⟩,h5⟩,by dsimp only;omega⟩
  ·rw[if_neg ha] at h5
   refine am.news 400 [] [] (.tup [.agg jj, .int .i64 4]) hA (aa) rfl (fun u M' hR=>?_) ?_
   ·rcases hR with ⟨hy,_⟩|⟨_,rfl⟩
    ·exact absurd hy ha
    ·exact⟨trivial,aa⟩
   conv=>whnf
   repeat' ((first|refine nI ?_|refine aI ?_|refine tI ?_|refine fI ?_|fail);conv=>whnf)
   exact⟨.inr ⟨4,rfl,h5⟩,rfl⟩
 ·rw[List.drop_of_length_le (by omega)] at h5
  exact⟨.inl h5.symm,rfl⟩
theorem qm (p:an) (s:aJ) (r:Rn) (hok:iO p) (hval:aA p=0) (ht:dZ p) (hc:AN r.start) (hl:r.steps.length<=140737488355328):ab Tryz.prog 32 [.agg (aR p), .agg (cq s), .agg (mA r)] (fun u=>u=Ha p s r):=by
 have he:=Ha.eq_1 p s r
 have hp:=eW hval
 obtain⟨m,e,hm⟩:=I2 p s r
 refine ab.rp ⟨m,e,hm⟩ ?_
 refine ab.intro ae ag Tryz.func32 rfl (by decide) ?_;(conv=>whnf)
 refine al rfl ?_
 conv=>whnf
 refine al rfl ?_
 conv=>whnf
 refine al rfl ?_
 conv=>whnf
 (refine oP (rT p s hok) ?_;conv=>whnf)
 refine ah ?_ ?_<;>(intro h1;conv=>whnf)
 ·rw[if_pos h1] at he;exact⟨.inr ⟨_,rfl,he⟩,rfl⟩
 rw[if_neg h1] at he
 have h2:=iy (p:=p) (s:=s) (by omega)
 (refine oP (nW p s r.start hp hc (by omega)) ?_;conv=>whnf)
 by_cases h3:VC p s r.start
 ·rw[if_pos h3] at he
  have hw:=ve (p:=p) (s:=s) (by omega) h3
  have hv:pB p s r.start=0:=by unfold pB;rw[if_pos h3]
  have h:dx p s r.start:=dx.of hp hw (by unfold cF;rw[if_neg h1];exact hv)
  refine fI ?_
  conv=>whnf
  (refine oP (vp p s r.start r.steps h ht hl) ?_;conv=>whnf)
  obtain⟨m',e',hm'⟩:=JW (p:=p) (s:=s) hw r.steps
  rw[hm'] at he⊢
  rw[he]
  conv=>whnf
  exact⟨.inl rfl,rfl⟩
 ·rw[if_neg h3] at he
  have hv:pB p s r.start=1:=by unfold pB;rw[if_neg h3]
  refine tI ?_
  conv=>whnf
  exact⟨.inr ⟨_,rfl,he⟩,rfl⟩
end Go.Proofs.YtekmminpfhacpaaGreatDoor
