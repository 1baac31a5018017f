import Derived.Test.YtnjggjhkfncnlaaGreatDoorV1
import Derived.Test.YtnjggjhkfncnlaaGreatDoorFwX
import Derived.Test.YtnjggjhkfncnlaaGreatDoorP1
import Derived.Test.YtnjggjhkfncnlaaGreatDoorFtE
set_option linter.unusedVariables false
set_option linter.unusedSimpArgs false
namespace Go.Proofs.YtnjggjhkfncnlaaGreatDoor
set_option maxRecDepth 100000
set_option maxHeartbeats 16000000
theorem zS (l:List Int) (s:Int) (hl:l.length<=4503599627370496):ab Tryz.prog 27 [.sl 0 an l, .int .i64 s] (fun u=>u= .bool (decide (s∈l))):=by
 refine ab.intro ac ag Tryz.func27 rfl (by decide) ?_;(conv=>whnf)
 refine aH.loopF ac ag (fun k:Nat=>k<=l.length/\s∉l.take k) (fun k=>[(5, .int .i64 (k:Int))]) (fun _=>[]) (fun k=>l.length-k) 0 ⟨by omega,by simp⟩ ?_;conv=>whnf
 refine⟨sI,?_⟩
 rintro k ⟨hk,ha⟩
 conv=>whnf
 repeat' ((first|refine nI ?_|refine aI ?_|refine dz trivial (by omega) ?_|refine dV trivial (by omega) ?_|refine dI ?_|refine dR ?_|refine dP ?_|refine al rfl ?_|refine pI _ rfl ?_|refine ap _ rfl ?_|refine tI ?_|refine fI ?_|refine ah (fun _=>?_) (fun _=>?_))<;>conv=>whnf)
 ·rename_i h1 h2
  rw[tN] at h2
  refine⟨az ?_,rfl⟩
  rw[<-h2]
  exact aP _ (by omega)
 ·rename_i h1 h2
  rw[tN] at h2
  refine⟨k+1,sI,⟨by omega,?_⟩,by dsimp only;omega⟩
  rw[bl 0 (by omega),List.mem_append,List.mem_singleton,not_or]
  exact⟨ha,fun e=>h2 e.symm⟩
 ·obtain rfl:k=l.length:=by omega
  rw[List.take_length] at ha
  exact⟨aq ha,rfl⟩
theorem iW (p:au) (hp:gM p) (hv:aB p=0):ab Tryz.prog 80 [.agg (aO p)] (fun u=>u= .tup [.sl aE bT (aA p.rules), .int .i64 0]):=by
 refine ab.intro ac ag Tryz.func80 rfl (by decide) ?_;(conv=>whnf)
 refine al rfl ?_
 conv=>whnf
 (refine oP (fY p hp) ?_;conv=>whnf)
 refine fI ?_
 conv=>whnf
 (refine oP (rF p (KH hv)) ?_;conv=>whnf)
 exact⟨rfl,rfl⟩
theorem rU (l:List Int) (hl:l.length<=1000000):ab Tryz.prog 210 [.sl 0 an l] (fun u=>u= .sl 0 an l):=by
 refine ab.intro ac ag Tryz.func210 rfl (by decide) ?_;(conv=>whnf)
 refine bw 0 an [] rfl ?_
 conv=>whnf
 refine bD _ rfl (by simp only[List.length_nil];omega) ?_
 conv=>whnf
 exact⟨rfl,rfl⟩
theorem tq (p:au) (q:aV) (h1:q.start.length<=1000) (h2:p.initial.length<=1000):ab Tryz.prog 160 [.agg (aO p), .agg (fg q)] (fun u=>u= .sl 0 an (ca p q)):=by
 have he:=ca.eq_1 p q
 refine ab.intro ac ag Tryz.func160 rfl (by decide) ?_;(conv=>whnf)
 refine al rfl ?_
 conv=>whnf
 refine al rfl ?_
 conv=>whnf
 refine ah ?_ ?_<;>(intro h;conv=>whnf)
 ·rw[if_pos (by omega)] at he
  (refine oP (rU q.start (by omega)) ?_;conv=>whnf)
  exact⟨he▸rfl,rfl⟩
 ·rw[if_neg (by omega)] at he
  (refine oP (rU p.initial (by omega)) ?_;conv=>whnf)
  exact⟨he▸rfl,rfl⟩
theorem zT (p:au) (q:aV) (hp:gM p) (hq:qP q) (hv:aZ p q=0):ab Tryz.prog 83 [.agg (aO p), .agg (fg q)] (fun u=>u= .tup [.sl 0 an (ca p q), .int .i64 0]):=by
 have a:=b7 (dZ (aQ hv).vld)
 have b:=sY (vg hv)
 refine ab.intro ac ag Tryz.func83 rfl (by decide) ?_;(conv=>whnf)
 refine al rfl ?_
 conv=>whnf
 refine al rfl ?_
 conv=>whnf
 (refine oP (rK p q hp hq) ?_;conv=>whnf)
 refine fI ?_
 conv=>whnf
 (refine oP (tq p q (by omega) (by omega)) ?_;conv=>whnf)
 exact⟨rfl,rfl⟩
theorem Hp (p:au) (q:aV) (hp:gM p) (hv:aB p=0) (hq:q.goal.length<=4503599627370496):ab Tryz.prog 115 [.agg (aO p), .agg (fg q)] (fun u=>u= .bool (decide (io p/\lO p q))):=by
 have hle:=iT hp
 refine ab.intro ac ag Tryz.func115 rfl (by decide) ?_;(conv=>whnf)
 refine al rfl ?_
 conv=>whnf
 refine al rfl ?_
 conv=>whnf
 refine ak.of_pure (n:=5) (Cq p hp hv) rfl ?_
 rintro _ ⟨b,c,d,e,rfl⟩
 by_cases ht:io p
 case neg=>
  rw[decide_eq_false ht]
  conv=>whnf
  exact⟨aq (fun h=>ht h.1),rfl⟩
 rw[decide_eq_true ht]
 conv=>whnf
 refine aH.loopF ac ag (fun k:Nat=>k<=p.rules.length/\(q.kind=2->∀j,j<k->(p.rules.getD j ar).src∈q.goal->(p.rules.getD j ar).dst∈q.goal)) (fun k=>[(7, .int .i64 (k:Int))]) (fun _=>[(5, .box 232 [.bool true, .bool b, .bool c, .bool d, .bool e])]) (fun k=>p.rules.length-k) 0 ⟨by omega,fun _ j hj=>by omega⟩ ?_;conv=>whnf
 refine⟨sI,?_⟩
 rintro k ⟨hk,ha⟩
 conv=>whnf
 refine ah ?_ ?_<;>(intro h1;conv=>whnf)
 ·have hlt:k<p.rules.length:=by omega
  refine ah ?_ ?_<;>(intro h2;conv=>whnf)
  ·refine dI ?_
   conv=>whnf
   refine nI ?_
   rw[tN]
   conv=>whnf
   refine dD (zS q.goal _ hq) (fun _=>?_) (fun _=>?_)<;>(conv=>whnf)
   ·rename_i h3
    refine nI ?_
    rw[tN]
    conv=>whnf
    refine dD (zS q.goal _ hq) (fun _=>?_) (fun _=>?_)<;>(conv=>whnf)
    ·rename_i h4
     repeat' ((first|refine nI ?_|refine aI ?_|refine tI ?_|refine fI ?_|fail);conv=>whnf)
     refine⟨k+1,sI,⟨by omega,fun hh j hj=>?_⟩,by dsimp only;omega⟩
     by_cases e:j=k
     ·subst e;exact fun _=>h4
     ·exact ha hh j (by omega)
    ·rename_i h4
     exact⟨aq (fun h=>h4 (h.2 h2 k hlt h3)),rfl⟩
   ·rename_i h3
    repeat' ((first|refine nI ?_|refine aI ?_|refine tI ?_|refine fI ?_|fail);conv=>whnf)
    refine⟨k+1,sI,⟨by omega,fun hh j hj=>?_⟩,by dsimp only;omega⟩
    by_cases e:j=k
    ·subst e;exact fun h=>absurd h h3
    ·exact ha hh j (by omega)
  ·exact⟨az ⟨ht,fun hh=>absurd hh h2⟩,rfl⟩
 ·exact⟨az ⟨ht,fun hh j hj=>ha hh j (by omega)⟩,rfl⟩
theorem CE (p:au) (q:aV) (hv:aB p=0):ab Tryz.prog 103 [.agg (aO p), .agg (fg q)] (fun u=>u= .int .i64 (ta p q:Int)):=by
 have hle:=(aK hv).len
 refine ab.intro ac ag Tryz.func103 rfl (by decide) ?_;(conv=>whnf)
 refine al rfl ?_
 conv=>whnf
 refine al rfl ?_
 conv=>whnf
 by_cases hk:q.kind=2
 ·have hN:ta p q=rL p.rules p.rules.length:=by unfold ta;rw[if_pos hk]
  refine aH.loopF ac ag (fun k:Nat=>k<=p.rules.length) (fun k=>[(6, .int .i64 (k:Int)),(5, .int .i64 (rL p.rules k:Int))]) (fun _=>[]) (fun k=>p.rules.length-k) 0 (Nat.zero_le _) ?_;conv=>whnf
  refine⟨sI,?_⟩
  rintro k hk'
  conv=>whnf
  refine ah ?_ ?_<;>(intro h2;conv=>whnf)
  ·have hlt:k<p.rules.length:=by omega
   refine da hk ?_
   conv=>whnf
   refine nI ?_
   rw[tN]
   conv=>whnf
   have hg:=dl hv k hlt
   have hc:=Gb hv (k:=k) (by omega)
   have hn:(rL p.rules (k+1):Int)=(rL p.rules k:Int)*(1+((p.rules.getD k ar).guards.length:Int)):=by rw[rL];push_cast;rfl
   have hb:(rL p.rules k:Int)*(1+((p.rules.getD k ar).guards.length:Int))<=6561*3:=Int.mul_le_mul (by omega) (by omega) (by omega) (by omega)
   have hb0:0<=(rL p.rules k:Int)*(1+((p.rules.getD k ar).guards.length:Int)):=Int.mul_nonneg (by omega) (by omega)
   refine aI ?_
   conv=>whnf
   refine aI ?_
   conv=>whnf
   repeat' ((first|refine nI ?_|refine aI ?_|refine tI ?_|refine fI ?_|fail);conv=>whnf)
   refine⟨k+1,?_,by omega,by dsimp only;omega⟩
   dsimp only
   rw[hn]
   exact sI
  ·obtain rfl:k=p.rules.length:=by omega
   rw[hN]
   exact⟨rfl,rfl⟩
 ·have hN:ta p q=1:=by unfold ta;rw[if_neg hk]
  refine aH.loopF ac ag (fun _:Unit=>True) (fun _=>[(6, .int .i64 0),(5, .int .i64 1)]) (fun _=>[]) (fun _=>0) () trivial ?_;conv=>whnf
  refine⟨sI,?_⟩
  rintro _ _
  conv=>whnf
  rw[hN]
  refine ah ?_ ?_<;>(intro h2;conv=>whnf)
  ·refine j' hk ?_
   conv=>whnf
   exact⟨rfl,rfl⟩
  ·exact⟨rfl,rfl⟩
theorem Hq (p:au) (q:aV) (hp:gM p) (hq:qP q):ab Tryz.prog 53 [.agg (aO p), .agg (fg q)] (fun u=>u= .int .i64 (cV p q)):=by
 have he:=cV.eq_1 p q
 have hlq:=sZ hq
 refine ab.intro ac ag Tryz.func53 rfl (by decide) ?_;(conv=>whnf)
 refine al rfl ?_
 conv=>whnf
 refine al rfl ?_
 conv=>whnf
 (refine oP (rK p q hp hq) ?_;conv=>whnf)
 refine ah ?_ ?_<;>(intro h1;conv=>whnf)
 ·rw[if_pos h1] at he
  exact⟨ae he.symm,rfl⟩
 rw[if_neg h1] at he
 have hv:=(aQ (show aZ p q=0 by omega)).vld
 refine dC (Hp p q hp hv (by omega)) (fun _=>?_) (fun _=>?_)<;>(conv=>whnf)
 ·rename_i hs
  rw[if_neg (fun h=>h hs)] at he
  (refine oP (CE p q hv) ?_;conv=>whnf)
  refine ah ?_ ?_<;>(intro h2;conv=>whnf)
  ·rw[if_pos (by omega)] at he
   exact⟨ae he.symm,rfl⟩
  ·rw[if_neg (by omega)] at he
   exact⟨ae he.symm,rfl⟩
 ·rename_i hs
  rw[if_pos hs] at he
  exact⟨ae he.symm,rfl⟩
theorem xj (p:au) (hp:gM p) (hv:aB p=0) (l:List Int) (hl:l.length<=140737488355328):ab Tryz.prog 54 [.agg (aO p), .sl 0 an l] (fun u=>u= .bool (decide (cM (aA p.rules).length l))):=by
 have hT:=(aK hv).thr
 refine ab.intro ac ag Tryz.func54 rfl (by decide) ?_;(conv=>whnf)
 refine al rfl ?_
 conv=>whnf
 (refine oP (iW p hp hv) ?_;conv=>whnf)
 refine aH.loopF ac ag (fun k:Nat=>k<=l.length/\∀i,i<k->(0<=l.getD i 0/\l.getD i 0<(aA p.rules).length)/\l.getD i 0∉l.take i) (fun k=>[(7, .int .i64 (k:Int))]) (fun _=>[]) (fun k=>l.length-k) 0 ⟨by omega,fun i hi=>by omega⟩ ?_;conv=>whnf
 refine⟨sI,?_⟩
 rintro k ⟨hk,ha⟩
 conv=>whnf
 refine ah ?_ ?_<;>(intro h1;conv=>whnf)
 ·have hlt:k<l.length:=by omega
  refine dI ?_
  conv=>whnf
  refine nI ?_
  rw[tN]
  conv=>whnf
  refine ah ?_ ?_<;>(intro h2;conv=>whnf)
  ·exact⟨aq (fun h=>by have:=(h k hlt).1.1;omega),rfl⟩
  refine nI ?_
  rw[tN]
  conv=>whnf
  refine ah ?_ ?_<;>(intro h3;conv=>whnf)
  ·exact⟨aq (fun h=>by have:=(h k hlt).1.2;omega),rfl⟩
  refine nI ?_
  rw[tN]
  conv=>whnf
  refine nI ?_
  rw[tN]
  conv=>whnf
  refine dD (zS (l.take k) (l.getD k 0) (by simp;omega)) (fun _=>?_) (fun _=>?_)<;>(conv=>whnf)
  ·rename_i h4
   exact⟨aq (fun h=>(h k hlt).2 h4),rfl⟩
  ·rename_i h4
   repeat' ((first|refine nI ?_|refine aI ?_|refine tI ?_|refine fI ?_|fail);conv=>whnf)
   refine⟨k+1,sI,⟨by omega,fun i hi=>?_⟩,by dsimp only;omega⟩
   by_cases e:i=k
   ·subst e;exact⟨⟨by omega,by omega⟩,h4⟩
   ·exact ha i (by omega)
 ·exact⟨az (fun i hi=>ha i (by omega)),rfl⟩
theorem d7 (p:au):ab Tryz.prog 81 [.agg (aO p)] (fun u=>u= .bool (decide (gq p))):=by
 refine ab.intro ac ag Tryz.func81 rfl (by decide) ?_;(conv=>whnf)
 refine al rfl ?_
 conv=>whnf
 refine ah ?_ ?_<;>(intro h;conv=>whnf)
 ·exact⟨az (.inl h),rfl⟩
 ·refine ah ?_ ?_<;>(intro h2;conv=>whnf)
  ·exact⟨az (.inr h2),rfl⟩
  ·exact⟨aq (fun hh=>by rcases hh with hh|hh;exact h hh;exact h2 hh),rfl⟩
def kO (p:au) (a:Int):Int:=(p.rules.getD a.toNat ar).src
theorem CF (p:au) (r:Nat):kO p (r:Int)=(p.rules.getD r ar).src:=by unfold kO;rw[tN]
theorem xk (p:au) (q:aV) (a b:Int) (ha:0<=a/\a<p.rules.length) (hb:0<=b/\b<p.rules.length):ab Tryz.prog 100 [.int .i64 a, .int .i64 b, .pd [.pd (ez p q)]] (fun u=>u= .int .i64 (sO (kO p a) (kO p b))):=by
 refine ab.intro ac ag Tryz.func100 rfl (by decide) ?_;(conv=>whnf)
 refine dI ?_
 conv=>whnf
 refine nI ?_
 conv=>whnf
 refine nI ?_
 conv=>whnf
 (refine oC (wF _ _) ?_;conv=>whnf)
 exact⟨rfl,rfl⟩
def fH (i n:Nat):List Int:=((List.range n).drop i).map fun r:Nat=>(r:Int)
theorem yq {i n:Nat} (h:i<n):fH i n=(i:Int)::fH (i+1) n:=by
 unfold fH
 rw[List.drop_eq_getElem_cons (by simpa using h)]
 simp
theorem CG (n:Nat):fH n n=[]:=by unfold fH;rw[List.drop_of_length_le (by simp)];rfl
theorem CH (i n:Nat):(fH i n).length=n-i:=by unfold fH;simp
def Kd (p:au) (q:aV):AV:=.fn 100 [.pd [.pd (ez p q)]]
theorem CI (p:au) (q:aV) (hn:p.rules.length<=8):ak Tryz.prog 216 [.row 8000 p.rules.length 1, .int .i64 0, .int .i64 (p.rules.length:Int),Kd p q] (aj.ofL [(8000,bv (fH 0 p.rules.length))])
  (fun u M=>u= .tup []/\∃L,yj (kO p) p.rules.length L/\M=aj.ofL [(8000,bv L)]):=by
 by_cases h0:p.rules.length=0
 ·refine ak.norm 400 (R:=fun u M=>u= .tup []/\cU (nn [(8000,bv (fH 0 p.rules.length))]) 400 M [(8000,bv (fH 0 p.rules.length))]) ?_ ?_
  ·refine ak.intro ac ag [(8000,bv (fH 0 p.rules.length))] Tryz.func216 rfl (by decide) ?_
   conv=>whnf
   refine aI ?_
   conv=>whnf
   refine aH.loopF ac ag (fun _:Unit=>True) (fun _=>[(8, .int .i64 1)]) (fun _=>[(8000,bv (fH 0 p.rules.length))]) (fun _=>0) () trivial ?_;conv=>whnf
   refine⟨sI,?_⟩
   rintro _ _
   conv=>whnf
   refine fI ?_
   conv=>whnf
   exact⟨rfl,(aa)⟩
  ·rintro u M ⟨rfl,hM⟩
   have e:fH 0 p.rules.length=[]:=by rw[h0];rfl
   refine⟨_, .tup [],rfl,hM,trivial,rfl,fH 0 p.rules.length,⟨by rw[e,h0];rfl,by rw[e];simp,fun x=>?_⟩,rfl⟩
   rw[e,h0]
   simp
 refine ak.norm 400 (R:=fun u M=>u= .tup []/\∃L,yj (kO p) p.rules.length L/\cU (nn [(8000,bv L)]) 400 M [(8000,bv L)]) ?_ ?_
 ·refine ak.intro ac ag [(8000,bv (fH 0 p.rules.length))] Tryz.func216 rfl (by decide) ?_
  conv=>whnf
  refine aI ?_
  conv=>whnf
  refine aH.loopF ac ag (fun x:Nat×List Int=>1<=x.1/\x.1<=p.rules.length/\yj (kO p) x.1 x.2) (fun x=>[(8, .int .i64 (x.1:Int))]) (fun x=>[(8000,bv (x.2++fH x.1 p.rules.length))]) (fun x=>p.rules.length-x.1) (1,[0]) ⟨by dsimp only;omega,by dsimp only;omega,yj.one⟩ ?_;conv=>whnf
  refine⟨?_,?_⟩
  ·rw[show([0]:List Int)++fH 1 p.rules.length=fH 0 p.rules.length by rw[yq (i:=0) (by omega)];rfl]
   exact sI
  rintro⟨i,L⟩ ⟨hi1,hi2,hI⟩
  dsimp only at hi1 hi2 hI⊢
  have hl:=hI.len
  conv=>whnf
  refine ah ?_ ?_<;>(intro h1;conv=>whnf)
  ·have hlt:i<p.rules.length:=by omega
   have e1:=yq hlt
   have hR:=CH (i+1) p.rules.length
   generalize hRe:fH (i+1) p.rules.length=R at e1 hR
   have hge:∀j,j<i->0<=L.getD j 0/\L.getD j 0<p.rules.length:=fun j hj=>by
    obtain⟨r,hr,e⟩:=(hI.mem (L.getD j 0)).1 (aP _ (by omega))
    omega
   refine aH.loopF ac ag (fun j:Nat=>j<=i/\∀x∈L.drop j,kO p i<kO p x) (fun j=>[(9, .int .i64 (j:Int))]) (fun j=>[(8000,bv (mF L R i j))]) (fun j=>j) i ⟨Nat.le_refl _,fun x hx=>by rw[List.drop_of_length_le (by omega)] at hx;cases hx⟩ ?_;conv=>whnf
   refine⟨?_,?_⟩
   ·rw[e1,<-hl,<-Ca]
    exact sI
   rintro j ⟨hj,ha⟩
   have hlen:=B9 (L:=L) (R:=R) (i:=(i:Int)) (j:=j) (by omega)
   conv=>whnf
   refine dI ?_
   conv=>whnf
   refine ah ?_ ?_<;>(intro h2;conv=>whnf)
   ·have hj0:0<j:=by omega
    obtain⟨m,rfl⟩:∃m,j=m+1:=⟨j-1,by omega⟩
    have ga:=Fa (L:=L) (R:=R) (i:=(i:Int)) (j:=m+1) (by omega)
    have gb:=w8 (L:=L) (R:=R) (i:=(i:Int)) (j:=m) (by omega)
    have gs:=zK (L:=L) (R:=R) (i:=(i:Int)) (j:=m) (by omega)
    have hm:=hge m (by omega)
    refine nI ?_
    rw[tN]
    conv=>whnf
    refine aI ?_
    conv=>whnf
    refine nI ?_
    rw[show(((m+1:Nat):Int)-1).toNat=m by omega]
    conv=>whnf
    rw[ga,gb]
    (refine oC (xk p q (i:Int) (L.getD m 0) (by omega) hm) ?_;conv=>whnf)
    refine ah ?_ ?_<;>(intro h3;conv=>whnf)
    ·have hlt3:kO p (i:Int)<kO p (L.getD m 0):=by
      unfold sO at h3
      split at h3
      ·assumption
      ·split at h3<;>omega
     refine dI ?_
     conv=>whnf
     repeat' ((first|refine nI ?_|refine aI ?_|refine tI ?_|refine fI ?_|fail);conv=>whnf)
     rw[tN,show(((m+1:Nat):Int)-1).toNat=m by omega]
     refine ap ((mF L R (i:Int) (m+1)).getD m 0) rfl ?_
     conv=>whnf
     repeat' ((first|refine nI ?_|refine aI ?_|refine tI ?_|refine fI ?_|fail);conv=>whnf)
     refine ap ((mF L R (i:Int) (m+1)).getD (m+1) 0) rfl ?_
     conv=>whnf
     repeat' ((first|refine nI ?_|refine aI ?_|refine tI ?_|refine fI ?_|fail);conv=>whnf)
     refine⟨m,?_,⟨by omega,fun x hx=>?_⟩,by dsimp only;omega⟩
     ·dsimp only
      rw[ga,gb,show(((m+1:Nat):Int)-1).toNat=m by omega,gs]
      exact sI
     ·rw[List.drop_eq_getElem_cons (by omega),List.mem_cons] at hx
      rcases hx with rfl|hx
      ·rw[<-ay 0 (by omega)];exact hlt3
      ·exact ha x hx
    ·have hge3:¬kO p (i:Int)<kO p (L.getD m 0):=by
      unfold sO at h3
      split at h3
      ·omega
      ·assumption
     repeat' ((first|refine nI ?_|refine aI ?_|refine tI ?_|refine fI ?_|fail);conv=>whnf)
     refine⟨(i+1,L.take (m+1)++[(i:Int)]++L.drop (m+1)),?_,⟨by dsimp only;omega,by dsimp only;omega,hI.next hj ha (.inr (by rw[Nat.add_sub_cancel];omega))⟩,by dsimp only;omega⟩
     dsimp only
     rw[hRe]
     exact sI
   ·obtain rfl:j=0:=by omega
    repeat' ((first|refine nI ?_|refine aI ?_|refine tI ?_|refine fI ?_|fail);conv=>whnf)
    refine⟨(i+1,L.take 0++[(i:Int)]++L.drop 0),?_,⟨by dsimp only;omega,by dsimp only;omega,hI.next hj ha (.inl rfl)⟩,by dsimp only;omega⟩
    dsimp only
    rw[hRe]
    exact sI
  ·obtain rfl:i=p.rules.length:=by omega
   rw[CG,List.append_nil]
   exact⟨rfl,L,hI,(aa)⟩
 ·rintro u M ⟨rfl,L,hI,hM⟩
  exact⟨_, .tup [],rfl,hM,trivial,rfl,L,hI,rfl⟩
def KI (p:au):AV->aj->Prop:=fun u M=>u= .tup []/\∃L,yj (kO p) p.rules.length L/\M=aj.ofL [(8000,bv L)]
theorem Fh (p:au) (q:aV) (hn:p.rules.length<=8):ak Tryz.prog 174 [.row 8000 p.rules.length 1, .int .i64 (p.rules.length:Int),Kd p q] (aj.ofL [(8000,bv (fH 0 p.rules.length))]) (KI p):=by
 refine ak.norm 400 (R:=fun u M=>u= .tup []/\∃L,yj (kO p) p.rules.length L/\cU (nn [(8000,bv L)]) 400 M [(8000,bv L)]) ?_ ?_
 ·refine ak.intro ac ag [(8000,bv (fH 0 p.rules.length))] Tryz.func174 rfl (by decide) ?_
  conv=>whnf
  refine aH.loopF ac ag (fun _:Unit=>True) (fun _=>[(7, .int .i64 0),(8, .int .i64 20)]) (fun _=>[(8000,bv (fH 0 p.rules.length))]) (fun _=>0) () trivial ?_;conv=>whnf
  refine⟨sI,?_⟩
  rintro _ _
  conv=>whnf
  refine fI ?_
  conv=>whnf
  refine ak.call [(8000, .old 8000)] [(8000,bv (fH 0 p.rules.length))] 400 rfl (aa) (aa) (CI p q hn) ?_
  rintro u M' ⟨rfl,L,hI,rfl⟩
  refine⟨[(8000, .old 8000)],[(8000,bv L)], .tup [],rfl,(aa),trivial,?_⟩
  conv=>whnf
  refine aH.loopF ac ag (fun _:Unit=>True) (fun _=>[(6, .int .i64 20)]) (fun _=>[(8000,bv L)]) (fun _=>0) () trivial ?_;conv=>whnf
  refine⟨sI,?_⟩
  rintro _ _
  conv=>whnf
  refine fI ?_
  conv=>whnf
  exact⟨rfl,L,hI,(aa)⟩
 ·rintro u M ⟨rfl,L,hI,hM⟩
  exact⟨_, .tup [],rfl,hM,trivial,rfl,L,hI,rfl⟩
theorem vu (p:au) (q:aV) (hn:p.rules.length<=8):ak Tryz.prog 99 [.row 8000 p.rules.length 1,Kd p q] (aj.ofL [(8000,bv (fH 0 p.rules.length))]) (KI p):=by
 refine ak.norm 400 (R:=fun u M=>u= .tup []/\∃L,yj (kO p) p.rules.length L/\cU (nn [(8000,bv L)]) 400 M [(8000,bv L)]) ?_ ?_
 ·refine ak.intro ac ag [(8000,bv (fH 0 p.rules.length))] Tryz.func99 rfl (by decide) ?_
  conv=>whnf
  refine ak.call [(8000, .old 8000)] [(8000,bv (fH 0 p.rules.length))] 400 rfl (aa) (aa) (Fh p q hn) ?_
  rintro u M' ⟨rfl,L,hI,rfl⟩
  refine⟨[(8000, .old 8000)],[(8000,bv L)], .tup [],rfl,(aa),trivial,?_⟩
  conv=>whnf
  exact⟨rfl,L,hI,(aa)⟩
 ·rintro u M ⟨rfl,L,hI,hM⟩
  exact⟨_, .tup [],rfl,hM,trivial,rfl,L,hI,rfl⟩
def qX (k n:Nat):List Int:=((List.range k).map fun r:Nat=>(r:Int))++List.replicate (n-k) 0
theorem zU (n:Nat):qX 0 n=List.replicate n 0:=by simp[qX]
theorem CJ (n:Nat):qX n n=fH 0 n:=by simp[qX,fH]
theorem CK {k n:Nat} (h:k<=n):(qX k n).length=n:=by simp[qX];omega
theorem Fi {k n:Nat} (h:k<n):(qX k n).set k (k:Int)=qX (k+1) n:=by
 unfold qX
 rw[List.set_append_right _ _ (by simp),List.length_map,List.length_range,Nat.sub_self,show n-k=(n-(k+1))+1 by omega,List.replicate_succ,List.set_cons_zero,List.range_succ,List.map_append,List.append_assoc]
 rfl
theorem yr {p:au} (hv:aB p=0) (r:Nat) (hr:r<p.rules.length):0<=kO p (r:Int)/\kO p (r:Int)<p.states.length:=by
 rw[CF]
 obtain⟨_,_,_,h4,_,_⟩:=hH ((aK hv).rul r hr)
 exact h4
theorem CL (p:au) (q:aV) (hv:aB p=0):ab Tryz.prog 42 [.pd (ez p q)] (fun u=>u= .sl 0 an (jY p.rules p.states.length)):=by
 have hn:=(aK hv).len
 refine ab.intro ac ag Tryz.func42 rfl (by decide) ?_;(conv=>whnf)
 refine al rfl ?_
 conv=>whnf
 refine xF 0 an 0 rfl (by dsimp only;omega) ?_
 rw[tN]
 conv=>whnf
 refine aH.loopF ac ag (fun k:Nat=>k<=p.rules.length) (fun k=>[(14, .int .i64 (k:Int))]) (fun k=>[(11,bv (qX k p.rules.length))]) (fun k=>p.rules.length-k) 0 (Nat.zero_le _) ?_;conv=>whnf
 refine⟨by rw[zU];exact sI,?_⟩
 rintro k hk
 have hl:=CK hk
 conv=>whnf
 refine ah ?_ ?_<;>(intro h1;conv=>whnf)
 ·have hup:=Fi (show k<p.rules.length by omega)
  repeat' ((first|refine nI ?_|refine aI ?_|refine tI ?_|refine fI ?_|fail);conv=>whnf)
  rw[tN]
  refine ap (k:Int) rfl ?_
  conv=>whnf
  repeat' ((first|refine nI ?_|refine aI ?_|refine tI ?_|refine fI ?_|fail);conv=>whnf)
  refine⟨k+1,?_,by omega,by dsimp only;omega⟩
  dsimp only
  rw[<-hup]
  exact sI
 ·obtain rfl:k=p.rules.length:=by omega
  rw[CJ]
  refine ak.call [(8000, .old 11)] [(8000,bv (fH 0 p.rules.length))] 400 rfl (aa) (aa) (vu p q (by omega)) ?_
  rintro u M' ⟨rfl,L,hI,rfl⟩
  refine⟨[(11, .old 8000)],[(11,bv L)], .tup [],rfl,(aa),trivial,?_⟩
  rw[hI.ext (ns:=p.states.length) (yr hv)]
  conv=>whnf
  exact⟨rfl,rfl⟩
def Hr (p:au) (q:aV):AV:=if cV p q≠0 then .tup [.nilsl, .int .i64 (cV p q)] else .tup [.sl 0 an (jY p.rules p.states.length), .int .i64 0]
theorem Hs (p:au) (q:aV) (hp:gM p) (hq:qP q):ab Tryz.prog 34 [.agg (aO p), .agg (fg q)] (fun u=>u=Hr p q):=by
 have he:=Hr.eq_1 p q
 refine ab.intro ac ag Tryz.func34 rfl (by decide) ?_;(conv=>whnf)
 refine al rfl ?_
 conv=>whnf
 refine al rfl ?_
 conv=>whnf
 refine ak.of_pure (n:=5) (rR p q hp hq) (by rfl) ?_
 rintro _ rfl
 by_cases h:cV p q=0
 ·rw[if_neg (by omega)] at he
  rw[iL h]
  conv=>whnf
  refine fI ?_
  conv=>whnf
  (refine oP (CL p q (aQ (c8 h)).vld) ?_;conv=>whnf)
  exact⟨he.symm,rfl⟩
 ·rw[if_pos h] at he
  rw[gg rfl h]
  conv=>whnf
  refine da h ?_
  conv=>whnf
  exact⟨he.symm,rfl⟩
def lj (rs:List bp) (x r:Nat):List Int:=((List.range r).filter fun r=>decide ((rs.getD r ar).src=(x:Int))).map fun r:Nat=>(r:Int)
def nH (rs:List bp) (x:Nat):List Int:=(List.range x).flatMap fun x=>lj rs x rs.length
theorem vv (rs:List bp) (n:Nat):nH rs n=jY rs n:=rfl
theorem Fj (rs:List bp) (x:Nat):nH rs (x+1)=nH rs x++lj rs x rs.length:=by
 unfold nH;rw[List.range_succ,List.flatMap_append];simp
theorem zV (rs:List bp) (x:Nat) (l:List Int):l++lj rs x 0=l:=by simp[lj]
theorem CM {rs:List bp} {x r:Nat} (h:(rs.getD r ar).src=(x:Int)) (l:List Int):l++lj rs x (r+1)=l++lj rs x r++[(r:Int)]:=by
 unfold lj
 rw[List.range_succ,List.filter_append,List.map_append,List.append_assoc,List.filter_cons_of_pos (by exact decide_eq_true h)]
 rfl
theorem Fk {rs:List bp} {x r:Nat} (h:¬(rs.getD r ar).src=(x:Int)) (l:List Int):l++lj rs x (r+1)=l++lj rs x r:=by
 unfold lj
 rw[List.range_succ,List.filter_append,List.map_append,List.filter_cons_of_neg (by simpa using h)]
 simp
theorem vw (rs:List bp) (x r:Nat):(lj rs x r).length<=r:=by
 unfold lj
 have:=List.length_filter_le (fun r=>decide ((rs.getD r ar).src=(x:Int))) (List.range r)
 rw[List.length_map]
 simpa using this
theorem vy (rs:List bp) (x:Nat):(nH rs x).length<=rs.length*x:=by
 have:=mG (fun x=>lj rs x rs.length) rs.length (List.range x) fun a _=>vw rs a rs.length
 unfold nH
 simpa using this
theorem CN (p:au) (hv:aB p=0):ab Tryz.prog 48 [.agg (aO p)] (fun u=>u= .sl 0 an (jY p.rules p.states.length)):=by
 have hn:=(aK hv).len
 refine ab.intro ac ag Tryz.func48 rfl (by decide) ?_;(conv=>whnf)
 refine al rfl ?_
 conv=>whnf
 refine aH.loopF ac ag (fun x:Nat=>x<=p.states.length) (fun x=>[(4, .int .i64 (x:Int)),(3, .row 1000 (nH p.rules x).length 1)]) (fun x=>[(1000,bv (nH p.rules x))]) (fun x=>p.states.length-x) 0 (Nat.zero_le _) ?_;conv=>whnf
 refine⟨aL.by_ [(1000, .nil 1)] _ 400 rfl (aa) (aa),?_⟩
 rintro x hx
 have hol:=vy p.rules x
 have hol2:p.rules.length*x<=8*6:=Nat.mul_le_mul (by omega) (by omega)
 conv=>whnf
 refine ah ?_ ?_<;>(intro h1;conv=>whnf)
 ·refine aH.loopF ac ag (fun r:Nat=>r<=p.rules.length) (fun r=>[(5, .int .i64 (r:Int)),(3, .row 1000 (nH p.rules x++lj p.rules x r).length 1)]) (fun r=>[(1000,bv (nH p.rules x++lj p.rules x r))]) (fun r=>p.rules.length-r) 0 (Nat.zero_le _) ?_;conv=>whnf
  refine⟨by rw[zV];exact sI,?_⟩
  rintro r hr
  have hxl:=vw p.rules x r
  have hll:(nH p.rules x++lj p.rules x r).length<=1000:=by rw[List.length_append];omega
  conv=>whnf
  refine ah ?_ ?_<;>(intro h2;conv=>whnf)
  ·refine nI ?_
   rw[tN]
   conv=>whnf
   refine ah ?_ ?_<;>(intro h3;conv=>whnf)
   ·have e:=CM h3 (nH p.rules x)
    refine bD [(r:Int)] rfl lI ?_
    conv=>whnf
    repeat' ((first|refine nI ?_|refine aI ?_|refine tI ?_|refine fI ?_|fail);conv=>whnf)
    refine⟨r+1,?_,by omega,by dsimp only;omega⟩
    dsimp only
    rw[e]
    exact aL.by_ [(1000, .old 31)] _ 400 rfl (aa) (aa)
   ·have e:=Fk h3 (nH p.rules x)
    repeat' ((first|refine nI ?_|refine aI ?_|refine tI ?_|refine fI ?_|fail);conv=>whnf)
    refine⟨r+1,?_,by omega,by dsimp only;omega⟩
    dsimp only
    rw[e]
    exact sI
  ·obtain rfl:r=p.rules.length:=by omega
   have e:=Fj p.rules x
   repeat' ((first|refine nI ?_|refine aI ?_|refine tI ?_|refine fI ?_|fail);conv=>whnf)
   refine⟨x+1,?_,by omega,by dsimp only;omega⟩
   dsimp only
   rw[e]
   exact sI
 ·obtain rfl:x=p.states.length:=by omega
  rw[vv]
  exact⟨rfl,rfl⟩
theorem Fl (p:au) (q:aV) (hv:aB p=0) (number:Nat) (hn:number<=1000000):ab Tryz.prog 107 [.agg (aO p), .agg (fg q), .int .i64 (number:Int)] (fun u=>u=if q.kind=1 then .nilsl else .sl 0 an (oe p number)):=by
 have hl:=(aK hv).len
 refine ab.intro ac ag Tryz.func107 rfl (by decide) ?_;(conv=>whnf)
 refine al rfl ?_
 conv=>whnf
 refine al rfl ?_
 conv=>whnf
 refine ah ?_ ?_<;>(intro hk;conv=>whnf)
 ·exact⟨by rw[if_pos hk];rfl,rfl⟩
 rw[if_neg hk]
 refine xF 0 an 0 rfl (by dsimp only;omega) ?_
 rw[tN]
 conv=>whnf
 refine aI ?_
 conv=>whnf
 have hch:∀m,qQ p.rules number m<=number:=by
  intro m
  induction m with
  |zero=>exact Nat.le_refl _
  |succ m ih=>rw[qQ];exact Nat.le_trans (Nat.div_le_self _ _) ih
 refine aH.loopF ac ag (fun m:Nat=>m<=p.rules.length) (fun m=>[(8, .int .i64 ((p.rules.length:Int)-1-(m:Int))),(2, .int .i64 (qQ p.rules number m:Int))]) (fun m=>[(16,bv (CA p number m))]) (fun m=>p.rules.length-m) 0 (Nat.zero_le _) ?_;conv=>whnf
 refine⟨by rw[vr];exact sI,?_⟩
 rintro m hm
 conv=>whnf
 refine ah ?_ ?_<;>(intro h1;conv=>whnf)
 ·have hlt:m<p.rules.length:=by omega
  have ei:((p.rules.length:Int)-1-(m:Int)).toNat=p.rules.length-1-m:=by omega
  refine nI ?_
  rw[ei]
  conv=>whnf
  have hg:=dl hv (p.rules.length-1-m) (by omega)
  have hc:=hch m
  have hup:=CB p (number:=number) hlt
  have ed:w5 p.rules number (p.rules.length-1-m)=qQ p.rules number m % (1+(p.rules.getD (p.rules.length-1-m) ar).guards.length):=by unfold w5;rw[show p.rules.length-1-(p.rules.length-1-m)=m by omega]
  have eq:qQ p.rules number (m+1)=qQ p.rules number m / (1+(p.rules.getD (p.rules.length-1-m) ar).guards.length):=rfl
  have hlen:=yp p (number:=number) (m:=m) (by omega)
  generalize (p.rules.getD (p.rules.length-1-m) ar).guards.length=g at hg ed eq
  have e1g:(1+(g:Int))=((1+g:Nat):Int):=by push_cast;rfl
  have et:((qQ p.rules number m:Nat):Int).tdiv (1+(g:Int))=((qQ p.rules number (m+1):Nat):Int):=by rw[e1g,eq,Int.ofNat_tdiv]
  have er:((qQ p.rules number m:Nat):Int).tmod (1+(g:Int))=((w5 p.rules number (p.rules.length-1-m):Nat):Int):=by rw[e1g,ed,Int.ofNat_tmod]
  have hc1:=hch (m+1)
  repeat' ((first|refine nI ?_|refine aI ?_|refine tI ?_|refine fI ?_|fail);conv=>whnf)
  rw[er,ei]
  refine ap ((w5 p.rules number (p.rules.length-1-m):Nat):Int) rfl ?_
  conv=>whnf
  repeat' ((first|refine nI ?_|refine aI ?_|refine tI ?_|refine fI ?_|fail);conv=>whnf)
  rw[et]
  refine ub (by omega) (by omega) ?_
  conv=>whnf
  repeat' ((first|refine nI ?_|refine aI ?_|refine tI ?_|refine fI ?_|fail);conv=>whnf)
  refine⟨m+1,?_,by omega,by dsimp only;omega⟩
  dsimp only
  rw[<-hup]
  exact sI
 ·obtain rfl:m=p.rules.length:=by omega
  rw[yo]
  exact⟨rfl,rfl⟩
theorem rV (p:au) (hp:gM p) (hv:aB p=0) (sch:List Int) (hs:cM (aA p.rules).length sch) (j:Nat) (x:bp) (hx:x.guards.length<=2) (hj:j<=sch.length):ab Tryz.prog 84 [.agg (aO p), .sl 0 an sch, .int .i64 (j:Int), .agg (dF x)] (fun u=>u= .bool (decide (BW (aA p.rules) sch j x))):=by
 have hT:=(aK hv).thr
 have hsl:=cH hs
 refine ab.intro ac ag Tryz.func84 rfl (by decide) ?_;(conv=>whnf)
 refine al rfl ?_
 conv=>whnf
 refine al rfl ?_
 conv=>whnf
 (refine oP (iW p hp hv) ?_;conv=>whnf)
 refine aH.loopF ac ag (fun k:Nat=>k<=x.guards.length/\∀i,i<k->∃m,m<j/\(aA p.rules).getD (sch.getD m 0).toNat aE=x.guards.getD i aE) (fun k=>[(11, .int .i64 (k:Int))]) (fun _=>[]) (fun k=>x.guards.length-k) 0 ⟨by omega,fun i hi=>by omega⟩ ?_;conv=>whnf
 refine⟨sI,?_⟩
 rintro k ⟨hk,ha⟩
 conv=>whnf
 refine ah ?_ ?_<;>(intro h1;conv=>whnf)
 ·have hlt:k<x.guards.length:=by omega
  refine aH.loopF ac ag (fun y:Nat×Bool=>y.1<=j/\(y.2=true↔∃m,m<y.1/\(aA p.rules).getD (sch.getD m 0).toNat aE=x.guards.getD k aE)) (fun y=>[(13, .int .i64 (y.1:Int)),(12, .bool y.2)]) (fun _=>[]) (fun y=>j-y.1) (0,false) ⟨Nat.zero_le _,fun e=>(by cases e),fun⟨m,h,_⟩=>(by omega)⟩ ?_;conv=>whnf
  refine⟨sI,?_⟩
  rintro⟨i,b⟩ ⟨hi,hb⟩
  dsimp only at hi hb⊢
  conv=>whnf
  refine ah ?_ ?_<;>(intro h2;conv=>whnf)
  ·have hil:i<j:=by omega
   have hsi:=(hs i (by omega)).1
   cases b with
   |true=>
    conv=>whnf
    refine dI ?_
    conv=>whnf
    repeat' ((first|refine nI ?_|refine aI ?_|refine tI ?_|refine fI ?_|fail);conv=>whnf)
    refine⟨(i+1,true),sI,⟨by dsimp only;omega,fun _=>?_,fun _=>rfl⟩,by dsimp only;omega⟩
    obtain⟨m,h3,h4⟩:=hb.1 rfl
    exact⟨m,by dsimp only;omega,h4⟩
   |false=>
    have hno:¬∃m,m<i/\(aA p.rules).getD (sch.getD m 0).toNat aE=x.guards.getD k aE:=fun h=>by have:=hb.2 h;cases this
    conv=>whnf
    refine dI ?_
    conv=>whnf
    refine nI ?_
    rw[tN]
    conv=>whnf
    refine nI ?_
    conv=>whnf
    refine nI ?_
    rw[tN]
    conv=>whnf
    refine ah ?_ ?_<;>(intro h3;conv=>whnf)
    ·repeat' ((first|refine nI ?_|refine aI ?_|refine tI ?_|refine fI ?_|fail);conv=>whnf)
     have h3:(aA p.rules).getD (sch.getD i 0).toNat aE=x.guards.getD k aE:=g8.1 h3
     exact⟨(i+1,true),sI,⟨by dsimp only;omega,fun _=>⟨i,by dsimp only;omega,h3⟩,fun _=>rfl⟩,by dsimp only;omega⟩
    ·repeat' ((first|refine nI ?_|refine aI ?_|refine tI ?_|refine fI ?_|fail);conv=>whnf)
     refine⟨(i+1,false),sI,⟨by dsimp only;omega,fun e=>(by cases e),fun⟨m,h4,h5⟩=>?_⟩,by dsimp only;omega⟩
     dsimp only at h4
     by_cases e:m=i
     ·subst e;exact absurd (g8.2 h5) h3
     ·exact absurd ⟨m,by omega,h5⟩ hno
  ·obtain rfl:i=j:=by omega
   cases b with
   |true=>
    conv=>whnf
    repeat' ((first|refine nI ?_|refine aI ?_|refine tI ?_|refine fI ?_|fail);conv=>whnf)
    refine⟨k+1,sI,⟨by omega,fun a hak=>?_⟩,by dsimp only;omega⟩
    by_cases e:a=k
    ·subst e;exact hb.1 rfl
    ·exact ha a (by omega)
   |false=>
    conv=>whnf
    refine⟨aq (fun h=>?_),rfl⟩
    have:=hb.2 (h _ (aP (l:=x.guards) aE hlt))
    cases this
 ·refine⟨az (fun g hg=>?_),rfl⟩
  obtain⟨i,hi,e⟩:=List.getElem_of_mem hg
  have:=ha i (by omega)
  rwa [ay aE hi,e] at this
def rX (l:List Vb):cn:=.row 56 cm dJ l
theorem qe (p:au) (q:aV) (hp:gM p) (hq:qP q) (hv:aZ p q=0) (sch:List Int) (hs:cM (aA p.rules).length sch):ab Tryz.prog 28 [.agg (aO p), .agg (fg q), .sl 0 an sch] (fun u=>u= .sl cm dJ (ao p q sch)):=by
 have w:=aK (aQ hv).vld
 have hle:=w.len
 have hT:=w.thr
 have hsl:=cH hs
 have hst:(ca p q).length<=6:=by
  have a:=bq (aQ hv).start
  have b:=bq w.ini.1
  unfold ca;split<;>omega
 have hil:p.initial.length<=6:=by have b:=bq w.ini.1;omega
 refine ab.intro ac ag Tryz.func28 rfl (by decide) ?_;(conv=>whnf)
 refine al rfl ?_
 conv=>whnf
 refine al rfl ?_
 conv=>whnf
 refine bw cm dJ [⟨0,0,0⟩,⟨1,0,0⟩,⟨2,0,0⟩] rfl ?_
 conv=>whnf
 (refine oP (zT p q hp hq hv) ?_;conv=>whnf)
 refine aH.loopF ac ag (fun k:Nat=>k<=(ca p q).length) (fun k=>[(17, .top),(10, .int .i64 (k:Int)),(7, .row 1000 (xg p q k).length 3)]) (fun k=>[(1000,rX (xg p q k))]) (fun k=>(ca p q).length-k) 0 (Nat.zero_le _) ?_;conv=>whnf
 refine⟨aL.by_ [(1000, .old 17)] _ 400 rfl (aa) (aa),?_⟩
 rintro k hk
 conv=>whnf
 refine ah ?_ ?_<;>(intro h1;conv=>whnf)
 ·have hlt:k<(ca p q).length:=by omega
  have hal:=oJ hv k
  refine nI ?_
  rw[tN]
  conv=>whnf
  refine bw cm dJ [⟨3,0,(ca p q).getD k 0⟩] rfl ?_
  conv=>whnf
  refine bD [⟨3,0,(ca p q).getD k 0⟩] rfl lI ?_
  conv=>whnf
  repeat' ((first|refine nI ?_|refine aI ?_|refine tI ?_|refine fI ?_|fail);conv=>whnf)
  refine⟨k+1,?_,by omega,by dsimp only;omega⟩
  dsimp only
  rw[CC p q hlt]
  exact aL.by_ [(1000, .old 37)] _ 400 rfl (aa) (aa)
 obtain rfl:k=(ca p q).length:=by omega
 refine aH.loopF ac ag (fun k:Nat=>k<=p.initial.length/\(k≠0->gq p)) (fun k=>[(11, .int .i64 (k:Int)),(7, .row 1000 (tl p q k).length 3)]) (fun k=>[(1000,rX (tl p q k))]) (fun k=>p.initial.length-k) 0 ⟨Nat.zero_le _,fun h=>absurd rfl h⟩ ?_;conv=>whnf
 refine⟨by rw[show tl p q 0=xg p q (ca p q).length by unfold tl;simp];exact sI,?_⟩
 rintro k ⟨hk2,hkw⟩
 conv=>whnf
 refine ah ?_ ?_<;>(intro h3;conv=>whnf)
 ·have hlt:k<p.initial.length:=by omega
  have hbl:=tn hv k
  refine dC (d7 p) (fun _=>?_) (fun _=>?_)<;>(conv=>whnf)
  ·rename_i hw
   refine nI ?_
   rw[tN]
   conv=>whnf
   refine bw cm dJ [⟨4,0,p.initial.getD k 0⟩] rfl ?_
   conv=>whnf
   refine bD [⟨4,0,p.initial.getD k 0⟩] rfl lI ?_
   conv=>whnf
   repeat' ((first|refine nI ?_|refine aI ?_|refine tI ?_|refine fI ?_|fail);conv=>whnf)
   refine⟨k+1,?_,⟨by omega,fun _=>hw⟩,by dsimp only;omega⟩
   dsimp only
   rw[CD p q hlt]
   exact aL.by_ [(1000, .old 57)] _ 400 rfl (aa) (aa)
  ·rename_i hw
   obtain rfl:k=0:=Classical.byContradiction fun h=>hw (hkw h)
   have hC:fG p q sch 0=tl p q 0:=by unfold fG Fg;rw[if_neg hw];unfold tl;simp
   refine aH.loopF ac ag (fun j:Nat=>j<=sch.length+1) (fun j=>[(12, .int .i64 (j:Int)),(7, .row 1000 (fG p q sch j).length 3)]) (fun j=>[(1000,rX (fG p q sch j))]) (fun j=>sch.length+1-j) 0 (Nat.zero_le _) ?_;conv=>whnf
   refine⟨by rw[hC];exact sI,?_⟩
   rintro j hj
   conv=>whnf
   refine ah ?_ ?_<;>(intro h1;conv=>whnf)
   ·have hDl:=oK hv hs j hj
    refine aH.loopF ac ag (fun r:Nat=>r<=p.rules.length) (fun r=>[(13, .int .i64 (r:Int)),(7, .row 1000 (fG p q sch j++bX p sch j r).length 3)]) (fun r=>[(1000,rX (fG p q sch j++bX p sch j r))]) (fun r=>p.rules.length-r) 0 (Nat.zero_le _) ?_;conv=>whnf
    refine⟨by rw[k9];exact sI,?_⟩
    rintro r hr
    conv=>whnf
    refine ah ?_ ?_<;>(intro h2;conv=>whnf)
    ·have hrl:r<p.rules.length:=by omega
     have hsl:=jf p sch j r
     have hll:(fG p q sch j++bX p sch j r).length<=1000:=by rw[List.length_append];omega
     refine dI ?_
     conv=>whnf
     refine nI ?_
     rw[tN]
     conv=>whnf
     refine dD (rV p hp (aQ hv).vld sch hs j (p.rules.getD r ar) (dl (aQ hv).vld r hrl) (by omega)) (fun _=>?_) (fun _=>?_)<;>(conv=>whnf)
     ·rename_i ha
      refine bw cm dJ [⟨5,j,r⟩] rfl ?_
      conv=>whnf
      refine bD [⟨5,j,r⟩] rfl lI ?_
      conv=>whnf
      refine dC (d7 p) (fun _=>?_) (fun _=>?_)<;>(conv=>whnf)
      ·rename_i hw
       have e:fG p q sch j++bX p sch j (r+1)=fG p q sch j++bX p sch j r++[⟨5,j,r⟩]++[⟨6,j,r⟩]:=by
        rw[dp,qR,if_pos ha,if_pos hw,List.append_assoc,List.append_assoc];rfl
       refine bw cm dJ [⟨6,j,r⟩] rfl ?_
       conv=>whnf
       refine bD [⟨6,j,r⟩] rfl (by simp only[List.length_append,List.length_cons,List.length_nil] at hll⊢;omega) ?_
       conv=>whnf
       repeat' ((first|refine nI ?_|refine aI ?_|refine tI ?_|refine fI ?_|fail);conv=>whnf)
       refine⟨r+1,?_,by omega,by dsimp only;omega⟩
       dsimp only
       rw[e]
       exact aL.by_ [(1000, .old 94)] _ 400 rfl (aa) (aa)
      ·rename_i hw
       have e:fG p q sch j++bX p sch j (r+1)=fG p q sch j++bX p sch j r++[⟨5,j,r⟩]:=by
        rw[dp,qR,if_pos ha,if_neg hw,List.append_assoc]
       repeat' ((first|refine nI ?_|refine aI ?_|refine tI ?_|refine fI ?_|fail);conv=>whnf)
       refine⟨r+1,?_,by omega,by dsimp only;omega⟩
       dsimp only
       rw[e]
       exact aL.by_ [(1000, .old 86)] _ 400 rfl (aa) (aa)
     ·rename_i ha
      have e:fG p q sch j++bX p sch j (r+1)=fG p q sch j++bX p sch j r:=by
       rw[dp,qR,if_neg ha,List.append_nil]
      repeat' ((first|refine nI ?_|refine aI ?_|refine tI ?_|refine fI ?_|fail);conv=>whnf)
      refine⟨r+1,?_,by omega,by dsimp only;omega⟩
      dsimp only
      rw[e]
      exact sI
    ·obtain rfl:r=p.rules.length:=by omega
     have e:=tm p q sch j
     repeat' ((first|refine nI ?_|refine aI ?_|refine tI ?_|refine fI ?_|fail);conv=>whnf)
     refine⟨j+1,?_,by omega,by dsimp only;omega⟩
     dsimp only
     rw[e]
     exact sI
   ·obtain rfl:j=sch.length+1:=by omega
    rw[oI]
    exact⟨rfl,rfl⟩
 ·obtain rfl:k=p.initial.length:=by omega
  have hini:=w.ini.2.1
  have hw:=hkw (by omega)
  have hC:fG p q sch 0=tl p q p.initial.length:=by unfold fG Fg;rw[if_pos hw];simp
  refine aH.loopF ac ag (fun j:Nat=>j<=sch.length+1) (fun j=>[(12, .int .i64 (j:Int)),(7, .row 1000 (fG p q sch j).length 3)]) (fun j=>[(1000,rX (fG p q sch j))]) (fun j=>sch.length+1-j) 0 (Nat.zero_le _) ?_;conv=>whnf
  refine⟨by rw[hC];exact sI,?_⟩
  rintro j hj
  conv=>whnf
  refine ah ?_ ?_<;>(intro h1;conv=>whnf)
  ·have hDl:=oK hv hs j hj
   refine aH.loopF ac ag (fun r:Nat=>r<=p.rules.length) (fun r=>[(13, .int .i64 (r:Int)),(7, .row 1000 (fG p q sch j++bX p sch j r).length 3)]) (fun r=>[(1000,rX (fG p q sch j++bX p sch j r))]) (fun r=>p.rules.length-r) 0 (Nat.zero_le _) ?_;conv=>whnf
   refine⟨by rw[k9];exact sI,?_⟩
   rintro r hr
   conv=>whnf
   refine ah ?_ ?_<;>(intro h2;conv=>whnf)
   ·have hrl:r<p.rules.length:=by omega
    have hsl:=jf p sch j r
    have hll:(fG p q sch j++bX p sch j r).length<=1000:=by rw[List.length_append];omega
    refine dI ?_
    conv=>whnf
    refine nI ?_
    rw[tN]
    conv=>whnf
    refine dD (rV p hp (aQ hv).vld sch hs j (p.rules.getD r ar) (dl (aQ hv).vld r hrl) (by omega)) (fun _=>?_) (fun _=>?_)<;>(conv=>whnf)
    ·rename_i ha
     refine bw cm dJ [⟨5,j,r⟩] rfl ?_
     conv=>whnf
     refine bD [⟨5,j,r⟩] rfl lI ?_
     conv=>whnf
     refine dC (d7 p) (fun _=>?_) (fun _=>?_)<;>(conv=>whnf)
     ·rename_i hw
      have e:fG p q sch j++bX p sch j (r+1)=fG p q sch j++bX p sch j r++[⟨5,j,r⟩]++[⟨6,j,r⟩]:=by
       rw[dp,qR,if_pos ha,if_pos hw,List.append_assoc,List.append_assoc];rfl
      refine bw cm dJ [⟨6,j,r⟩] rfl ?_
      conv=>whnf
      refine bD [⟨6,j,r⟩] rfl (by simp only[List.length_append,List.length_cons,List.length_nil] at hll⊢;omega) ?_
      conv=>whnf
      repeat' ((first|refine nI ?_|refine aI ?_|refine tI ?_|refine fI ?_|fail);conv=>whnf)
      refine⟨r+1,?_,by omega,by dsimp only;omega⟩
      dsimp only
      rw[e]
      exact aL.by_ [(1000, .old 94)] _ 400 rfl (aa) (aa)
     ·rename_i hw
      have e:fG p q sch j++bX p sch j (r+1)=fG p q sch j++bX p sch j r++[⟨5,j,r⟩]:=by
       rw[dp,qR,if_pos ha,if_neg hw,List.append_assoc]
      repeat' ((first|refine nI ?_|refine aI ?_|refine tI ?_|refine fI ?_|fail);conv=>whnf)
      refine⟨r+1,?_,by omega,by dsimp only;omega⟩
      dsimp only
      rw[e]
      exact aL.by_ [(1000, .old 86)] _ 400 rfl (aa) (aa)
    ·rename_i ha
     have e:fG p q sch j++bX p sch j (r+1)=fG p q sch j++bX p sch j r:=by
      rw[dp,qR,if_neg ha,List.append_nil]
     repeat' ((first|refine nI ?_|refine aI ?_|refine tI ?_|refine fI ?_|fail);conv=>whnf)
     refine⟨r+1,?_,by omega,by dsimp only;omega⟩
     dsimp only
     rw[e]
     exact sI
   ·obtain rfl:r=p.rules.length:=by omega
    have e:=tm p q sch j
    repeat' ((first|refine nI ?_|refine aI ?_|refine tI ?_|refine fI ?_|fail);conv=>whnf)
    refine⟨j+1,?_,by omega,by dsimp only;omega⟩
    dsimp only
    rw[e]
    exact sI
  ·obtain rfl:j=sch.length+1:=by omega
   rw[oI]
   exact⟨rfl,rfl⟩
end Go.Proofs.YtnjggjhkfncnlaaGreatDoor
