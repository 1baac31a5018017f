import Derived.Test.YtekmminpfhacpaaGreatDoorV1
import Derived.Test.YtekmminpfhacpaaGreatDoorFtE
set_option linter.unusedVariables false
set_option linter.unusedSimpArgs false
namespace Go.Proofs.YtekmminpfhacpaaGreatDoor
set_option maxRecDepth 100000
set_option maxHeartbeats 16000000
theorem Fr (l:List Int) (s:Int) (hl:l.length<=4503599627370496):ab Tryz.prog 67 [.sl 0 ao l, .int .i64 s] (fun u=>u= .bool (decide (s∈l))):=by
 refine ab.intro ac ae Tryz.func67 rfl (by decide) ?_;(conv=>whnf)
 refine aF.loopF ac ae (fun k:Nat=>k<=l.length/\s∉l.take k) (fun k=>[(5, .int .i64 (k:Int))]) (fun _=>[]) (fun k=>l.length-k) 0 ⟨by omega,by simp⟩ ?_;conv=>whnf
 refine⟨sI,?_⟩
 rintro k ⟨hk,ha⟩
 conv=>whnf
 repeat' ((first|refine nI ?_|refine aI ?_|refine uI ?_|refine vI ?_|refine dI ?_|refine dR ?_|refine dP ?_|refine ak rfl ?_|refine pI _ rfl ?_|refine ap _ rfl ?_|refine tI ?_|refine fI ?_|refine ag (fun _=>?_) (fun _=>?_))<;>conv=>whnf)
 ·rename_i h1 h2
  rw[tN] at h2
  refine⟨av ?_,rfl⟩
  rw[<-h2]
  exact bi _ (by omega)
 ·rename_i h1 h2
  rw[tN] at h2
  refine⟨k+1,sI,⟨by omega,?_⟩,by dsimp only;omega⟩
  rw[bj 0 (by omega),List.mem_append,List.mem_singleton,not_or]
  exact⟨ha,fun e=>h2 e.symm⟩
 ·obtain rfl:k=l.length:=by omega
  rw[List.take_length] at ha
  exact⟨al ha,rfl⟩
theorem kp (p:an) (hp:g7 p) (hv:aw p=0):ab Tryz.prog 41 [.agg (aB p)] (fun u=>u= .tup [.sl aA bL (ar p.rules), .int .i64 0]):=by
 refine ab.intro ac ae Tryz.func41 rfl (by decide) ?_;(conv=>whnf)
 refine ak rfl ?_
 conv=>whnf
 (refine oP (f6 p hp) ?_;conv=>whnf)
 refine fI ?_
 conv=>whnf
 (refine oP (qe p (Iz hv)) ?_;conv=>whnf)
 exact⟨rfl,rfl⟩
theorem qw (l:List Int) (hl:l.length<=1000000):ab Tryz.prog 272 [.sl 0 ao l] (fun u=>u= .sl 0 ao l):=by
 refine ab.intro ac ae Tryz.func272 rfl (by decide) ?_;(conv=>whnf)
 refine bD 0 ao [] rfl ?_
 conv=>whnf
 refine bQ _ rfl (by simp only[List.length_nil];omega) ?_
 conv=>whnf
 exact⟨rfl,rfl⟩
theorem rO (p:an) (q:aE) (h1:q.start.length<=1000) (h2:p.initial.length<=1000):ab Tryz.prog 211 [.agg (aB p), .agg (cJ q)] (fun u=>u= .sl 0 ao (cC p q)):=by
 have he:=cC.eq_1 p q
 refine ab.intro ac ae Tryz.func211 rfl (by decide) ?_;(conv=>whnf)
 refine ak rfl ?_
 conv=>whnf
 refine ak rfl ?_
 conv=>whnf
 refine ag ?_ ?_<;>(intro h;conv=>whnf)
 ·rw[if_pos (by omega)] at he
  (refine oP (qw q.start (by omega)) ?_;conv=>whnf)
  exact⟨he▸rfl,rfl⟩
 ·rw[if_neg (by omega)] at he
  (refine oP (qw p.initial (by omega)) ?_;conv=>whnf)
  exact⟨he▸rfl,rfl⟩
theorem x5 (p:an) (q:aE) (hp:g7 p) (hq:qk q) (hv:aU p q=0):ab Tryz.prog 116 [.agg (aB p), .agg (cJ q)] (fun u=>u= .tup [.sl 0 ao (cC p q), .int .i64 0]):=by
 have a:=aO (dE (bl hv).vld)
 have b:=iY (jE hv)
 refine ab.intro ac ae Tryz.func116 rfl (by decide) ?_;(conv=>whnf)
 refine ak rfl ?_
 conv=>whnf
 refine ak rfl ?_
 conv=>whnf
 (refine oP (jV p q hp hq) ?_;conv=>whnf)
 refine fI ?_
 conv=>whnf
 (refine oP (rO p q (by omega) (by omega)) ?_;conv=>whnf)
 exact⟨rfl,rfl⟩
theorem Fs (p:an) (q:aE) (hp:g7 p) (hv:aw p=0) (hq:q.goal.length<=4503599627370496):ab Tryz.prog 112 [.agg (aB p), .agg (cJ q)] (fun u=>u= .bool (decide (c9 p/\g6 p q))):=by
 have hle:=gZ hp
 refine ab.intro ac ae Tryz.func112 rfl (by decide) ?_;(conv=>whnf)
 refine ak rfl ?_
 conv=>whnf
 refine ak rfl ?_
 conv=>whnf
 refine am.of_pure (n:=5) (Fj p hp hv) rfl ?_
 rintro _ ⟨b,c,d,e,rfl⟩
 by_cases ht:c9 p
 case neg=>
  rw[decide_eq_false ht]
  conv=>whnf
  exact⟨al (fun h=>ht h.1),rfl⟩
 rw[decide_eq_true ht]
 conv=>whnf
 refine aF.loopF ac ae (fun k:Nat=>k<=p.rules.length/\(q.kind=2->∀j,j<k->(p.rules.getD j aq).src∈q.goal->(p.rules.getD j aq).dst∈q.goal)) (fun k=>[(7, .int .i64 (k:Int))]) (fun _=>[(5, .box 272 [.bool true, .bool b, .bool c, .bool d, .bool e])]) (fun k=>p.rules.length-k) 0 ⟨by omega,fun _ j hj=>by omega⟩ ?_;conv=>whnf
 refine⟨sI,?_⟩
 rintro k ⟨hk,ha⟩
 conv=>whnf
 refine ag ?_ ?_<;>(intro h1;conv=>whnf)
 ·have hlt:k<p.rules.length:=by omega
  refine ag ?_ ?_<;>(intro h2;conv=>whnf)
  ·refine dI ?_
   conv=>whnf
   refine nI ?_
   rw[tN]
   conv=>whnf
   refine dD (Fr q.goal _ hq) (fun _=>?_) (fun _=>?_)<;>(conv=>whnf)
   ·rename_i h3
    refine nI ?_
    rw[tN]
    conv=>whnf
    refine dD (Fr q.goal _ hq) (fun _=>?_) (fun _=>?_)<;>(conv=>whnf)
    ·rename_i h4
     repeat' ((first|refine nI ?_|refine aI ?_|refine tI ?_|refine fI ?_|fail);conv=>whnf)
     refine⟨k+1,sI,⟨by omega,fun hh j hj=>?_⟩,by dsimp only;omega⟩
     by_cases e:j=k
     ·subst e;exact fun _=>h4
     ·exact ha hh j (by omega)
    ·rename_i h4
     exact⟨al (fun h=>h4 (h.2 h2 k hlt h3)),rfl⟩
   ·rename_i h3
    repeat' ((first|refine nI ?_|refine aI ?_|refine tI ?_|refine fI ?_|fail);conv=>whnf)
    refine⟨k+1,sI,⟨by omega,fun hh j hj=>?_⟩,by dsimp only;omega⟩
    by_cases e:j=k
    ·subst e;exact fun h=>absurd h h3
    ·exact ha hh j (by omega)
  ·exact⟨av ⟨ht,fun hh=>absurd hh h2⟩,rfl⟩
 ·exact⟨av ⟨ht,fun hh j hj=>ha hh j (by omega)⟩,rfl⟩
theorem Ft (p:an) (q:aE) (hv:aw p=0):ab Tryz.prog 43 [.agg (aB p), .agg (cJ q)] (fun u=>u= .int .i64 (wA p q:Int)):=by
 have hle:=(bk hv).len
 refine ab.intro ac ae Tryz.func43 rfl (by decide) ?_;(conv=>whnf)
 refine ak rfl ?_
 conv=>whnf
 refine ak rfl ?_
 conv=>whnf
 by_cases hk:q.kind=2
 ·have hN:wA p q=qo p.rules p.rules.length:=by unfold wA;rw[if_pos hk]
  refine aF.loopF ac ae (fun k:Nat=>k<=p.rules.length) (fun k=>[(6, .int .i64 (k:Int)),(5, .int .i64 (qo p.rules k:Int))]) (fun _=>[]) (fun k=>p.rules.length-k) 0 (Nat.zero_le _) ?_;conv=>whnf
  refine⟨sI,?_⟩
  rintro k hk'
  conv=>whnf
  refine ag ?_ ?_<;>(intro h2;conv=>whnf)
  ·have hlt:k<p.rules.length:=by omega
   refine eI hk ?_
   conv=>whnf
   refine nI ?_
   rw[tN]
   conv=>whnf
   have hg:=d8 hv k hlt
   have hc:=Em hv (k:=k) (by omega)
   have hn:(qo p.rules (k+1):Int)=(qo p.rules k:Int)*(1+((p.rules.getD k aq).guards.length:Int)):=by rw[qo];push_cast;rfl
   have hb:(qo p.rules k:Int)*(1+((p.rules.getD k aq).guards.length:Int))<=6561*3:=Int.mul_le_mul (by omega) (by omega) (by omega) (by omega)
   have hb0:0<=(qo p.rules k:Int)*(1+((p.rules.getD k aq).guards.length:Int)):=Int.mul_nonneg (by omega) (by omega)
   refine aI ?_
   conv=>whnf
   refine aI ?_
   conv=>whnf
   repeat' ((first|refine nI ?_|refine aI ?_|refine tI ?_|refine fI ?_|fail);conv=>whnf)
   refine⟨k+1,?_,by omega,by dsimp only;omega⟩
   dsimp only
   rw[hn]
   exact sI
  ·obtain rfl:k=p.rules.length:=by omega
   rw[hN]
   exact⟨rfl,rfl⟩
 ·have hN:wA p q=1:=by unfold wA;rw[if_neg hk]
  refine aF.loopF ac ae (fun _:Unit=>True) (fun _=>[(6, .int .i64 0),(5, .int .i64 1)]) (fun _=>[]) (fun _=>0) () trivial ?_;conv=>whnf
  refine⟨sI,?_⟩
  rintro _ _
  conv=>whnf
  rw[hN]
  refine ag ?_ ?_<;>(intro h2;conv=>whnf)
  ·refine iA hk ?_
   conv=>whnf
   exact⟨rfl,rfl⟩
  ·exact⟨rfl,rfl⟩
theorem Fu (p:an) (q:aE) (hp:g7 p) (hq:qk q):ab Tryz.prog 40 [.agg (aB p), .agg (cJ q)] (fun u=>u= .int .i64 (dl p q)):=by
 have he:=dl.eq_1 p q
 have hlq:=ro hq
 refine ab.intro ac ae Tryz.func40 rfl (by decide) ?_;(conv=>whnf)
 refine ak rfl ?_
 conv=>whnf
 refine ak rfl ?_
 conv=>whnf
 (refine oP (jV p q hp hq) ?_;conv=>whnf)
 refine ag ?_ ?_<;>(intro h1;conv=>whnf)
 ·rw[if_pos h1] at he
  exact⟨ah he.symm,rfl⟩
 rw[if_neg h1] at he
 have hv:=(bl (show aU p q=0 by omega)).vld
 refine dC (Fs p q hp hv (by omega)) (fun _=>?_) (fun _=>?_)<;>(conv=>whnf)
 ·rename_i hs
  rw[if_neg (fun h=>h hs)] at he
  (refine oP (Ft p q hv) ?_;conv=>whnf)
  refine ag ?_ ?_<;>(intro h2;conv=>whnf)
  ·rw[if_pos (by omega)] at he
   exact⟨ah he.symm,rfl⟩
  ·rw[if_neg (by omega)] at he
   exact⟨ah he.symm,rfl⟩
 ·rename_i hs
  rw[if_pos hs] at he
  exact⟨ah he.symm,rfl⟩
theorem fU (p:an):ab Tryz.prog 117 [.agg (aB p)] (fun u=>u= .bool (decide (pA p))):=by
 refine ab.intro ac ae Tryz.func117 rfl (by decide) ?_;(conv=>whnf)
 refine ak rfl ?_
 conv=>whnf
 refine ag ?_ ?_<;>(intro h;conv=>whnf)
 ·exact⟨av (.inl h),rfl⟩
 ·refine ag ?_ ?_<;>(intro h2;conv=>whnf)
  ·exact⟨av (.inr h2),rfl⟩
  ·exact⟨al (fun hh=>by rcases hh with hh|hh;exact h hh;exact h2 hh),rfl⟩
def kO (p:an) (a:Int):Int:=(p.rules.getD a.toNat aq).src
theorem Fv (p:an) (r:Nat):kO p (r:Int)=(p.rules.getD r aq).src:=by unfold kO;rw[tN]
theorem vu (p:an) (q:aE) (a b:Int) (ha:0<=a/\a<p.rules.length) (hb:0<=b/\b<p.rules.length):ab Tryz.prog 180 [.int .i64 a, .int .i64 b, .pd [.pd (du p q)]] (fun u=>u= .int .i64 (iP (kO p a) (kO p b))):=by
 refine ab.intro ac ae Tryz.func180 rfl (by decide) ?_;(conv=>whnf)
 refine dI ?_
 conv=>whnf
 refine nI ?_
 conv=>whnf
 refine nI ?_
 conv=>whnf
 (refine oC (iQ _ _) ?_;conv=>whnf)
 exact⟨rfl,rfl⟩
def eH (i n:Nat):List Int:=((List.range n).drop i).map fun r:Nat=>(r:Int)
theorem wI {i n:Nat} (h:i<n):eH i n=(i:Int)::eH (i+1) n:=by
 unfold eH
 rw[List.drop_eq_getElem_cons (by simpa using h)]
 simp
theorem AN (n:Nat):eH n n=[]:=by unfold eH;rw[List.drop_of_length_le (by simp)];rfl
theorem AO (i n:Nat):(eH i n).length=n-i:=by unfold eH;simp
def HV (p:an) (q:aE):AV:=.fn 180 [.pd [.pd (du p q)]]
theorem AP (p:an) (q:aE) (hn:p.rules.length<=8):am Tryz.prog 285 [.row 8000 p.rules.length 1, .int .i64 0, .int .i64 (p.rules.length:Int),HV p q] (aj.ofL [(8000,bm (eH 0 p.rules.length))])
  (fun u M=>u= .tup []/\∃L,wE (kO p) p.rules.length L/\M=aj.ofL [(8000,bm L)]):=by
 by_cases h0:p.rules.length=0
 ·refine am.norm 400 (R:=fun u M=>u= .tup []/\dc (mn [(8000,bm (eH 0 p.rules.length))]) 400 M [(8000,bm (eH 0 p.rules.length))]) ?_ ?_
  ·refine am.intro ac ae [(8000,bm (eH 0 p.rules.length))] Tryz.func285 rfl (by decide) ?_
   conv=>whnf
   refine aI ?_
   conv=>whnf
   refine aF.loopF ac ae (fun _:Unit=>True) (fun _=>[(8, .int .i64 1)]) (fun _=>[(8000,bm (eH 0 p.rules.length))]) (fun _=>0) () trivial ?_;conv=>whnf
   refine⟨sI,?_⟩
   rintro _ _
   conv=>whnf
   refine fI ?_
   conv=>whnf
   exact⟨rfl,(aa)⟩
  ·rintro u M ⟨rfl,hM⟩
   have e:eH 0 p.rules.length=[]:=by rw[h0];rfl
   refine⟨_, .tup [],rfl,hM,trivial,rfl,eH 0 p.rules.length,⟨by rw[e,h0];rfl,by rw[e];simp,fun x=>?_⟩,rfl⟩
   rw[e,h0]
   simp
 refine am.norm 400 (R:=fun u M=>u= .tup []/\∃L,wE (kO p) p.rules.length L/\dc (mn [(8000,bm L)]) 400 M [(8000,bm L)]) ?_ ?_
 ·refine am.intro ac ae [(8000,bm (eH 0 p.rules.length))] Tryz.func285 rfl (by decide) ?_
  conv=>whnf
  refine aI ?_
  conv=>whnf
  refine aF.loopF ac ae (fun x:Nat×List Int=>1<=x.1/\x.1<=p.rules.length/\wE (kO p) x.1 x.2) (fun x=>[(8, .int .i64 (x.1:Int))]) (fun x=>[(8000,bm (x.2++eH x.1 p.rules.length))]) (fun x=>p.rules.length-x.1) (1,[0]) ⟨by dsimp only;omega,by dsimp only;omega,wE.one⟩ ?_;conv=>whnf
  refine⟨?_,?_⟩
  ·rw[show([0]:List Int)++eH 1 p.rules.length=eH 0 p.rules.length by rw[wI (i:=0) (by omega)];rfl]
   exact sI
  rintro⟨i,L⟩ ⟨hi1,hi2,hI⟩
  dsimp only at hi1 hi2 hI⊢
  have hl:=hI.len
  conv=>whnf
  refine ag ?_ ?_<;>(intro h1;conv=>whnf)
  ·have hlt:i<p.rules.length:=by omega
   have e1:=wI hlt
   have hR:=AO (i+1) p.rules.length
   generalize hRe:eH (i+1) p.rules.length=R at e1 hR
   have hge:∀j,j<i->0<=L.getD j 0/\L.getD j 0<p.rules.length:=fun j hj=>by
    obtain⟨r,hr,e⟩:=(hI.mem (L.getD j 0)).1 (bi _ (by omega))
    omega
   refine aF.loopF ac ae (fun j:Nat=>j<=i/\∀x∈L.drop j,kO p i<kO p x) (fun j=>[(9, .int .i64 (j:Int))]) (fun j=>[(8000,bm (lF L R i j))]) (fun j=>j) i ⟨Nat.le_refl _,fun x hx=>by rw[List.drop_of_length_le (by omega)] at hx;cases hx⟩ ?_;conv=>whnf
   refine⟨?_,?_⟩
   ·rw[e1,<-hl,<-Ar]
    exact sI
   rintro j ⟨hj,ha⟩
   have hlen:=Aq (L:=L) (R:=R) (i:=(i:Int)) (j:=j) (by omega)
   conv=>whnf
   refine dI ?_
   conv=>whnf
   refine ag ?_ ?_<;>(intro h2;conv=>whnf)
   ·have hj0:0<j:=by omega
    obtain⟨m,rfl⟩:∃m,j=m+1:=⟨j-1,by omega⟩
    have ga:=C4 (L:=L) (R:=R) (i:=(i:Int)) (j:=m+1) (by omega)
    have gb:=vj (L:=L) (R:=R) (i:=(i:Int)) (j:=m) (by omega)
    have gs:=xV (L:=L) (R:=R) (i:=(i:Int)) (j:=m) (by omega)
    have hm:=hge m (by omega)
    refine nI ?_
    rw[tN]
    conv=>whnf
    refine aI ?_
    conv=>whnf
    refine nI ?_
    rw[show(((m+1:Nat):Int)-1).toNat=m by omega]
    conv=>whnf
    rw[ga,gb]
    (refine oC (vu p q (i:Int) (L.getD m 0) (by omega) hm) ?_;conv=>whnf)
    refine ag ?_ ?_<;>(intro h3;conv=>whnf)
    ·have hlt3:kO p (i:Int)<kO p (L.getD m 0):=by
      unfold iP at h3
      split at h3
      ·assumption
      ·split at h3<;>omega
     refine dI ?_
     conv=>whnf
     repeat' ((first|refine nI ?_|refine aI ?_|refine tI ?_|refine fI ?_|fail);conv=>whnf)
     rw[tN,show(((m+1:Nat):Int)-1).toNat=m by omega]
     refine ap ((lF L R (i:Int) (m+1)).getD m 0) rfl ?_
     conv=>whnf
     repeat' ((first|refine nI ?_|refine aI ?_|refine tI ?_|refine fI ?_|fail);conv=>whnf)
     refine ap ((lF L R (i:Int) (m+1)).getD (m+1) 0) rfl ?_
     conv=>whnf
     repeat' ((first|refine nI ?_|refine aI ?_|refine tI ?_|refine fI ?_|fail);conv=>whnf)
     refine⟨m,?_,⟨by omega,fun x hx=>?_⟩,by dsimp only;omega⟩
     ·dsimp only
      rw[ga,gb,show(((m+1:Nat):Int)-1).toNat=m by omega,gs]
      exact sI
     ·rw[List.drop_eq_getElem_cons (by omega),List.mem_cons] at hx
      rcases hx with rfl|hx
      ·rw[<-au 0 (by omega)];exact hlt3
      ·exact ha x hx
    ·have hge3:¬kO p (i:Int)<kO p (L.getD m 0):=by
      unfold iP at h3
      split at h3
      ·omega
      ·assumption
     repeat' ((first|refine nI ?_|refine aI ?_|refine tI ?_|refine fI ?_|fail);conv=>whnf)
     refine⟨(i+1,L.take (m+1)++[(i:Int)]++L.drop (m+1)),?_,⟨by dsimp only;omega,by dsimp only;omega,hI.next hj ha (.inr (by rw[Nat.add_sub_cancel];omega))⟩,by dsimp only;omega⟩
     dsimp only
     rw[hRe]
     exact sI
   ·obtain rfl:j=0:=by omega
    repeat' ((first|refine nI ?_|refine aI ?_|refine tI ?_|refine fI ?_|fail);conv=>whnf)
    refine⟨(i+1,L.take 0++[(i:Int)]++L.drop 0),?_,⟨by dsimp only;omega,by dsimp only;omega,hI.next hj ha (.inl rfl)⟩,by dsimp only;omega⟩
    dsimp only
    rw[hRe]
    exact sI
  ·obtain rfl:i=p.rules.length:=by omega
   rw[AN,List.append_nil]
   exact⟨rfl,L,hI,(aa)⟩
 ·rintro u M ⟨rfl,L,hI,hM⟩
  exact⟨_, .tup [],rfl,hM,trivial,rfl,L,hI,rfl⟩
def IA (p:an):AV->aj->Prop:=fun u M=>u= .tup []/\∃L,wE (kO p) p.rules.length L/\M=aj.ofL [(8000,bm L)]
theorem Dd (p:an) (q:aE) (hn:p.rules.length<=8):am Tryz.prog 251 [.row 8000 p.rules.length 1, .int .i64 (p.rules.length:Int),HV p q] (aj.ofL [(8000,bm (eH 0 p.rules.length))]) (IA p):=by
 refine am.norm 400 (R:=fun u M=>u= .tup []/\∃L,wE (kO p) p.rules.length L/\dc (mn [(8000,bm L)]) 400 M [(8000,bm L)]) ?_ ?_
 ·refine am.intro ac ae [(8000,bm (eH 0 p.rules.length))] Tryz.func251 rfl (by decide) ?_
  conv=>whnf
  refine aF.loopF ac ae (fun _:Unit=>True) (fun _=>[(7, .int .i64 0),(8, .int .i64 20)]) (fun _=>[(8000,bm (eH 0 p.rules.length))]) (fun _=>0) () trivial ?_;conv=>whnf
  refine⟨sI,?_⟩
  rintro _ _
  conv=>whnf
  refine fI ?_
  conv=>whnf
  refine am.call [(8000, .old 8000)] [(8000,bm (eH 0 p.rules.length))] 400 rfl (aa) (aa) (AP p q hn) ?_
  rintro u M' ⟨rfl,L,hI,rfl⟩
  refine⟨[(8000, .old 8000)],[(8000,bm L)], .tup [],rfl,(aa),trivial,?_⟩
  conv=>whnf
  refine aF.loopF ac ae (fun _:Unit=>True) (fun _=>[(6, .int .i64 20)]) (fun _=>[(8000,bm L)]) (fun _=>0) () trivial ?_;conv=>whnf
  refine⟨sI,?_⟩
  rintro _ _
  conv=>whnf
  refine fI ?_
  conv=>whnf
  exact⟨rfl,L,hI,(aa)⟩
 ·rintro u M ⟨rfl,L,hI,hM⟩
  exact⟨_, .tup [],rfl,hM,trivial,rfl,L,hI,rfl⟩
theorem tU (p:an) (q:aE) (hn:p.rules.length<=8):am Tryz.prog 179 [.row 8000 p.rules.length 1,HV p q] (aj.ofL [(8000,bm (eH 0 p.rules.length))]) (IA p):=by
 refine am.norm 400 (R:=fun u M=>u= .tup []/\∃L,wE (kO p) p.rules.length L/\dc (mn [(8000,bm L)]) 400 M [(8000,bm L)]) ?_ ?_
 ·refine am.intro ac ae [(8000,bm (eH 0 p.rules.length))] Tryz.func179 rfl (by decide) ?_
  conv=>whnf
  refine am.call [(8000, .old 8000)] [(8000,bm (eH 0 p.rules.length))] 400 rfl (aa) (aa) (Dd p q hn) ?_
  rintro u M' ⟨rfl,L,hI,rfl⟩
  refine⟨[(8000, .old 8000)],[(8000,bm L)], .tup [],rfl,(aa),trivial,?_⟩
  conv=>whnf
  exact⟨rfl,L,hI,(aa)⟩
 ·rintro u M ⟨rfl,L,hI,hM⟩
  exact⟨_, .tup [],rfl,hM,trivial,rfl,L,hI,rfl⟩
def pB (k n:Nat):List Int:=((List.range k).map fun r:Nat=>(r:Int))++List.replicate (n-k) 0
theorem x6 (n:Nat):pB 0 n=List.replicate n 0:=by simp[pB]
theorem AQ (n:Nat):pB n n=eH 0 n:=by simp[pB,eH]
theorem AR {k n:Nat} (h:k<=n):(pB k n).length=n:=by simp[pB];omega
theorem De {k n:Nat} (h:k<n):(pB k n).set k (k:Int)=pB (k+1) n:=by
 unfold pB
 rw[List.set_append_right _ _ (by simp),List.length_map,List.length_range,Nat.sub_self,show n-k=(n-(k+1))+1 by omega,List.replicate_succ,List.set_cons_zero,List.range_succ,List.map_append,List.append_assoc]
 rfl
theorem Df {p:an} (hv:aw p=0) (r:Nat) (hr:r<p.rules.length):0<=kO p (r:Int)/\kO p (r:Int)<p.states.length:=by
 rw[Fv]
 obtain⟨_,_,_,h4,_,_⟩:=gk ((bk hv).rul r hr)
 exact h4
theorem Fw (p:an) (q:aE) (hv:aw p=0):ab Tryz.prog 91 [.pd (du p q)] (fun u=>u= .sl 0 ao (Fc p.rules p.states.length)):=by
 have hn:=(bk hv).len
 refine ab.intro ac ae Tryz.func91 rfl (by decide) ?_;(conv=>whnf)
 refine ak rfl ?_
 conv=>whnf
 refine DY 0 ao 0 rfl (by dsimp only;omega) ?_
 rw[tN]
 conv=>whnf
 refine aF.loopF ac ae (fun k:Nat=>k<=p.rules.length) (fun k=>[(14, .int .i64 (k:Int))]) (fun k=>[(11,bm (pB k p.rules.length))]) (fun k=>p.rules.length-k) 0 (Nat.zero_le _) ?_;conv=>whnf
 refine⟨by rw[x6];exact sI,?_⟩
 rintro k hk
 have hl:=AR hk
 conv=>whnf
 refine ag ?_ ?_<;>(intro h1;conv=>whnf)
 ·have hup:=De (show k<p.rules.length by omega)
  repeat' ((first|refine nI ?_|refine aI ?_|refine tI ?_|refine fI ?_|fail);conv=>whnf)
  rw[tN]
  refine ap (k:Int) rfl ?_
  conv=>whnf
  repeat' ((first|refine nI ?_|refine aI ?_|refine tI ?_|refine fI ?_|fail);conv=>whnf)
  refine⟨k+1,?_,by omega,by dsimp only;omega⟩
  dsimp only
  rw[<-hup]
  exact sI
 ·obtain rfl:k=p.rules.length:=by omega
  rw[AQ]
  refine am.call [(8000, .old 11)] [(8000,bm (eH 0 p.rules.length))] 400 rfl (aa) (aa) (tU p q (by omega)) ?_
  rintro u M' ⟨rfl,L,hI,rfl⟩
  refine⟨[(11, .old 8000)],[(11,bm L)], .tup [],rfl,(aa),trivial,?_⟩
  rw[hI.ext (ns:=p.states.length) (Df hv)]
  conv=>whnf
  exact⟨rfl,rfl⟩
def Fx (p:an) (q:aE):AV:=if dl p q≠0 then .tup [.nilsl, .int .i64 (dl p q)] else .tup [.sl 0 ao (Fc p.rules p.states.length), .int .i64 0]
theorem Fy (p:an) (q:aE) (hp:g7 p) (hq:qk q):ab Tryz.prog 48 [.agg (aB p), .agg (cJ q)] (fun u=>u=Fx p q):=by
 have he:=Fx.eq_1 p q
 refine ab.intro ac ae Tryz.func48 rfl (by decide) ?_;(conv=>whnf)
 refine ak rfl ?_
 conv=>whnf
 refine ak rfl ?_
 conv=>whnf
 refine am.of_pure (n:=5) (tQ p q hp hq) (by rfl) ?_
 rintro _ rfl
 by_cases h:dl p q=0
 ·rw[if_neg (by omega)] at he
  rw[i4 h]
  conv=>whnf
  refine fI ?_
  conv=>whnf
  (refine oP (Fw p q (bl (gp h)).vld) ?_;conv=>whnf)
  exact⟨he.symm,rfl⟩
 ·rw[if_pos h] at he
  rw[fT rfl h]
  conv=>whnf
  refine eI h ?_
  conv=>whnf
  exact⟨he.symm,rfl⟩
theorem qx (p:an) (hp:g7 p) (hv:aw p=0) (sch:List Int) (hs:eM (ar p.rules).length sch) (j:Nat) (x:bC) (hx:x.guards.length<=2) (hj:j<=sch.length):ab Tryz.prog 118 [.agg (aB p), .sl 0 ao sch, .int .i64 (j:Int), .agg (ee x)] (fun u=>u= .bool (decide (xR (ar p.rules) sch j x))):=by
 have hT:=(bk hv).thr
 have hsl:=dF hs
 refine ab.intro ac ae Tryz.func118 rfl (by decide) ?_;(conv=>whnf)
 refine ak rfl ?_
 conv=>whnf
 refine ak rfl ?_
 conv=>whnf
 (refine oP (kp p hp hv) ?_;conv=>whnf)
 refine aF.loopF ac ae (fun k:Nat=>k<=x.guards.length/\∀i,i<k->∃m,m<j/\(ar p.rules).getD (sch.getD m 0).toNat aA=x.guards.getD i aA) (fun k=>[(11, .int .i64 (k:Int))]) (fun _=>[]) (fun k=>x.guards.length-k) 0 ⟨by omega,fun i hi=>by omega⟩ ?_;conv=>whnf
 refine⟨sI,?_⟩
 rintro k ⟨hk,ha⟩
 conv=>whnf
 refine ag ?_ ?_<;>(intro h1;conv=>whnf)
 ·have hlt:k<x.guards.length:=by omega
  refine aF.loopF ac ae (fun y:Nat×Bool=>y.1<=j/\(y.2=true↔∃m,m<y.1/\(ar p.rules).getD (sch.getD m 0).toNat aA=x.guards.getD k aA)) (fun y=>[(13, .int .i64 (y.1:Int)),(12, .bool y.2)]) (fun _=>[]) (fun y=>j-y.1) (0,false) ⟨Nat.zero_le _,fun e=>(by cases e),fun⟨m,h,_⟩=>(by omega)⟩ ?_;conv=>whnf
  refine⟨sI,?_⟩
  rintro⟨i,b⟩ ⟨hi,hb⟩
  dsimp only at hi hb⊢
  conv=>whnf
  refine ag ?_ ?_<;>(intro h2;conv=>whnf)
  ·have hil:i<j:=by omega
   have hsi:=(hs i (by omega)).1
   cases b with
   |true=>
    conv=>whnf
    refine dI ?_
    conv=>whnf
    repeat' ((first|refine nI ?_|refine aI ?_|refine tI ?_|refine fI ?_|fail);conv=>whnf)
    refine⟨(i+1,true),sI,⟨by dsimp only;omega,fun _=>?_,fun _=>rfl⟩,by dsimp only;omega⟩
    obtain⟨m,h3,h4⟩:=hb.1 rfl
    exact⟨m,by dsimp only;omega,h4⟩
   |false=>
    have hno:¬∃m,m<i/\(ar p.rules).getD (sch.getD m 0).toNat aA=x.guards.getD k aA:=fun h=>by have:=hb.2 h;cases this
    conv=>whnf
    refine dI ?_
    conv=>whnf
    refine nI ?_
    rw[tN]
    conv=>whnf
    refine nI ?_
    conv=>whnf
    refine nI ?_
    rw[tN]
    conv=>whnf
    refine ag ?_ ?_<;>(intro h3;conv=>whnf)
    ·repeat' ((first|refine nI ?_|refine aI ?_|refine tI ?_|refine fI ?_|fail);conv=>whnf)
     have h3:(ar p.rules).getD (sch.getD i 0).toNat aA=x.guards.getD k aA:=gi.1 h3
     exact⟨(i+1,true),sI,⟨by dsimp only;omega,fun _=>⟨i,by dsimp only;omega,h3⟩,fun _=>rfl⟩,by dsimp only;omega⟩
    ·repeat' ((first|refine nI ?_|refine aI ?_|refine tI ?_|refine fI ?_|fail);conv=>whnf)
     refine⟨(i+1,false),sI,⟨by dsimp only;omega,fun e=>(by cases e),fun⟨m,h4,h5⟩=>?_⟩,by dsimp only;omega⟩
     dsimp only at h4
     by_cases e:m=i
     ·subst e;exact absurd (gi.2 h5) h3
     ·exact absurd ⟨m,by omega,h5⟩ hno
  ·obtain rfl:i=j:=by omega
   cases b with
   |true=>
    conv=>whnf
    repeat' ((first|refine nI ?_|refine aI ?_|refine tI ?_|refine fI ?_|fail);conv=>whnf)
    refine⟨k+1,sI,⟨by omega,fun a hak=>?_⟩,by dsimp only;omega⟩
    by_cases e:a=k
    ·subst e;exact hb.1 rfl
    ·exact ha a (by omega)
   |false=>
    conv=>whnf
    refine⟨al (fun h=>?_),rfl⟩
    have:=hb.2 (h _ (bi (l:=x.guards) aA hlt))
    cases this
 ·refine⟨av (fun g hg=>?_),rfl⟩
  obtain⟨i,hi,e⟩:=List.getElem_of_mem hg
  have:=ha i (by omega)
  rwa [au aA hi,e] at this
def qy (l:List Vb):bP:=.row 91 cw d7 l
theorem vv (p:an) (q:aE) (hp:g7 p) (hq:qk q) (hv:aU p q=0) (sch:List Int) (hs:eM (ar p.rules).length sch):ab Tryz.prog 51 [.agg (aB p), .agg (cJ q), .sl 0 ao sch] (fun u=>u= .sl cw d7 (bI p q sch)):=by
 have w:=bk (bl hv).vld
 have hle:=w.len
 have hT:=w.thr
 have hsl:=dF hs
 have hst:(cC p q).length<=6:=by
  have a:=bu (bl hv).start
  have b:=bu w.ini.1
  unfold cC;split<;>omega
 have hil:p.initial.length<=6:=by have b:=bu w.ini.1;omega
 refine ab.intro ac ae Tryz.func51 rfl (by decide) ?_;(conv=>whnf)
 refine ak rfl ?_
 conv=>whnf
 refine ak rfl ?_
 conv=>whnf
 refine bD cw d7 [⟨0,0,0⟩,⟨1,0,0⟩,⟨2,0,0⟩] rfl ?_
 conv=>whnf
 (refine oP (x5 p q hp hq hv) ?_;conv=>whnf)
 refine aF.loopF ac ae (fun k:Nat=>k<=(cC p q).length) (fun k=>[(17, .top),(10, .int .i64 (k:Int)),(7, .row 1000 (vr p q k).length 3)]) (fun k=>[(1000,qy (vr p q k))]) (fun k=>(cC p q).length-k) 0 (Nat.zero_le _) ?_;conv=>whnf
 refine⟨aR.by_ [(1000, .old 17)] _ 400 rfl (aa) (aa),?_⟩
 rintro k hk
 conv=>whnf
 refine ag ?_ ?_<;>(intro h1;conv=>whnf)
 ·have hlt:k<(cC p q).length:=by omega
  have hal:=nf hv k
  refine nI ?_
  rw[tN]
  conv=>whnf
  refine bD cw d7 [⟨3,0,(cC p q).getD k 0⟩] rfl ?_
  conv=>whnf
  refine bQ [⟨3,0,(cC p q).getD k 0⟩] rfl lI ?_
  conv=>whnf
  repeat' ((first|refine nI ?_|refine aI ?_|refine tI ?_|refine fI ?_|fail);conv=>whnf)
  refine⟨k+1,?_,by omega,by dsimp only;omega⟩
  dsimp only
  rw[AK p q hlt]
  exact aR.by_ [(1000, .old 37)] _ 400 rfl (aa) (aa)
 obtain rfl:k=(cC p q).length:=by omega
 refine aF.loopF ac ae (fun k:Nat=>k<=p.initial.length/\(k≠0->pA p)) (fun k=>[(11, .int .i64 (k:Int)),(7, .row 1000 (rK p q k).length 3)]) (fun k=>[(1000,qy (rK p q k))]) (fun k=>p.initial.length-k) 0 ⟨Nat.zero_le _,fun h=>absurd rfl h⟩ ?_;conv=>whnf
 refine⟨by rw[show rK p q 0=vr p q (cC p q).length by unfold rK;simp];exact sI,?_⟩
 rintro k ⟨hk2,hkw⟩
 conv=>whnf
 refine ag ?_ ?_<;>(intro h3;conv=>whnf)
 ·have hlt:k<p.initial.length:=by omega
  have hbl:=rM hv k
  refine dC (fU p) (fun _=>?_) (fun _=>?_)<;>(conv=>whnf)
  ·rename_i hw
   refine nI ?_
   rw[tN]
   conv=>whnf
   refine bD cw d7 [⟨4,0,p.initial.getD k 0⟩] rfl ?_
   conv=>whnf
   refine bQ [⟨4,0,p.initial.getD k 0⟩] rfl lI ?_
   conv=>whnf
   repeat' ((first|refine nI ?_|refine aI ?_|refine tI ?_|refine fI ?_|fail);conv=>whnf)
   refine⟨k+1,?_,⟨by omega,fun _=>hw⟩,by dsimp only;omega⟩
   dsimp only
   rw[AM p q hlt]
   exact aR.by_ [(1000, .old 57)] _ 400 rfl (aa) (aa)
  ·rename_i hw
   obtain rfl:k=0:=Classical.byContradiction fun h=>hw (hkw h)
   have hC:eG p q sch 0=rK p q 0:=by unfold eG Dc;rw[if_neg hw];unfold rK;simp
   refine aF.loopF ac ae (fun j:Nat=>j<=sch.length+1) (fun j=>[(12, .int .i64 (j:Int)),(7, .row 1000 (eG p q sch j).length 3)]) (fun j=>[(1000,qy (eG p q sch j))]) (fun j=>sch.length+1-j) 0 (Nat.zero_le _) ?_;conv=>whnf
   refine⟨by rw[hC];exact sI,?_⟩
   rintro j hj
   conv=>whnf
   refine ag ?_ ?_<;>(intro h1;conv=>whnf)
   ·have hDl:=ng hv hs j hj
    refine aF.loopF ac ae (fun r:Nat=>r<=p.rules.length) (fun r=>[(13, .int .i64 (r:Int)),(7, .row 1000 (eG p q sch j++bE p sch j r).length 3)]) (fun r=>[(1000,qy (eG p q sch j++bE p sch j r))]) (fun r=>p.rules.length-r) 0 (Nat.zero_le _) ?_;conv=>whnf
    refine⟨by rw[jZ];exact sI,?_⟩
    rintro r hr
    conv=>whnf
    refine ag ?_ ?_<;>(intro h2;conv=>whnf)
    ·have hrl:r<p.rules.length:=by omega
     have hsl:=ir p sch j r
     have hll:(eG p q sch j++bE p sch j r).length<=1000:=by rw[List.length_append];omega
     refine dI ?_
     conv=>whnf
     refine nI ?_
     rw[tN]
     conv=>whnf
     refine dD (qx p hp (bl hv).vld sch hs j (p.rules.getD r aq) (d8 (bl hv).vld r hrl) (by omega)) (fun _=>?_) (fun _=>?_)<;>(conv=>whnf)
     ·rename_i ha
      refine bD cw d7 [⟨5,j,r⟩] rfl ?_
      conv=>whnf
      refine bQ [⟨5,j,r⟩] rfl lI ?_
      conv=>whnf
      refine dC (fU p) (fun _=>?_) (fun _=>?_)<;>(conv=>whnf)
      ·rename_i hw
       have e:eG p q sch j++bE p sch j (r+1)=eG p q sch j++bE p sch j r++[⟨5,j,r⟩]++[⟨6,j,r⟩]:=by
        rw[cY,pn,if_pos ha,if_pos hw,List.append_assoc,List.append_assoc];rfl
       refine bD cw d7 [⟨6,j,r⟩] rfl ?_
       conv=>whnf
       refine bQ [⟨6,j,r⟩] rfl (by simp only[List.length_append,List.length_cons,List.length_nil] at hll⊢;omega) ?_
       conv=>whnf
       repeat' ((first|refine nI ?_|refine aI ?_|refine tI ?_|refine fI ?_|fail);conv=>whnf)
       refine⟨r+1,?_,by omega,by dsimp only;omega⟩
       dsimp only
       rw[e]
       exact aR.by_ [(1000, .old 94)] _ 400 rfl (aa) (aa)
      ·rename_i hw
       have e:eG p q sch j++bE p sch j (r+1)=eG p q sch j++bE p sch j r++[⟨5,j,r⟩]:=by
        rw[cY,pn,if_pos ha,if_neg hw,List.append_assoc]
       repeat' ((first|refine nI ?_|refine aI ?_|refine tI ?_|refine fI ?_|fail);conv=>whnf)
       refine⟨r+1,?_,by omega,by dsimp only;omega⟩
       dsimp only
       rw[e]
       exact aR.by_ [(1000, .old 86)] _ 400 rfl (aa) (aa)
     ·rename_i ha
      have e:eG p q sch j++bE p sch j (r+1)=eG p q sch j++bE p sch j r:=by
       rw[cY,pn,if_neg ha,List.append_nil]
      repeat' ((first|refine nI ?_|refine aI ?_|refine tI ?_|refine fI ?_|fail);conv=>whnf)
      refine⟨r+1,?_,by omega,by dsimp only;omega⟩
      dsimp only
      rw[e]
      exact sI
    ·obtain rfl:r=p.rules.length:=by omega
     have e:=rL p q sch j
     repeat' ((first|refine nI ?_|refine aI ?_|refine tI ?_|refine fI ?_|fail);conv=>whnf)
     refine⟨j+1,?_,by omega,by dsimp only;omega⟩
     dsimp only
     rw[e]
     exact sI
   ·obtain rfl:j=sch.length+1:=by omega
    rw[ne]
    exact⟨rfl,rfl⟩
 ·obtain rfl:k=p.initial.length:=by omega
  have hini:=w.ini.2.1
  have hw:=hkw (by omega)
  have hC:eG p q sch 0=rK p q p.initial.length:=by unfold eG Dc;rw[if_pos hw];simp
  refine aF.loopF ac ae (fun j:Nat=>j<=sch.length+1) (fun j=>[(12, .int .i64 (j:Int)),(7, .row 1000 (eG p q sch j).length 3)]) (fun j=>[(1000,qy (eG p q sch j))]) (fun j=>sch.length+1-j) 0 (Nat.zero_le _) ?_;conv=>whnf
  refine⟨by rw[hC];exact sI,?_⟩
  rintro j hj
  conv=>whnf
  refine ag ?_ ?_<;>(intro h1;conv=>whnf)
  ·have hDl:=ng hv hs j hj
   refine aF.loopF ac ae (fun r:Nat=>r<=p.rules.length) (fun r=>[(13, .int .i64 (r:Int)),(7, .row 1000 (eG p q sch j++bE p sch j r).length 3)]) (fun r=>[(1000,qy (eG p q sch j++bE p sch j r))]) (fun r=>p.rules.length-r) 0 (Nat.zero_le _) ?_;conv=>whnf
   refine⟨by rw[jZ];exact sI,?_⟩
   rintro r hr
   conv=>whnf
   refine ag ?_ ?_<;>(intro h2;conv=>whnf)
   ·have hrl:r<p.rules.length:=by omega
    have hsl:=ir p sch j r
    have hll:(eG p q sch j++bE p sch j r).length<=1000:=by rw[List.length_append];omega
    refine dI ?_
    conv=>whnf
    refine nI ?_
    rw[tN]
    conv=>whnf
    refine dD (qx p hp (bl hv).vld sch hs j (p.rules.getD r aq) (d8 (bl hv).vld r hrl) (by omega)) (fun _=>?_) (fun _=>?_)<;>(conv=>whnf)
    ·rename_i ha
     refine bD cw d7 [⟨5,j,r⟩] rfl ?_
     conv=>whnf
     refine bQ [⟨5,j,r⟩] rfl lI ?_
     conv=>whnf
     refine dC (fU p) (fun _=>?_) (fun _=>?_)<;>(conv=>whnf)
     ·rename_i hw
      have e:eG p q sch j++bE p sch j (r+1)=eG p q sch j++bE p sch j r++[⟨5,j,r⟩]++[⟨6,j,r⟩]:=by
       rw[cY,pn,if_pos ha,if_pos hw,List.append_assoc,List.append_assoc];rfl
      refine bD cw d7 [⟨6,j,r⟩] rfl ?_
      conv=>whnf
      refine bQ [⟨6,j,r⟩] rfl (by simp only[List.length_append,List.length_cons,List.length_nil] at hll⊢;omega) ?_
      conv=>whnf
      repeat' ((first|refine nI ?_|refine aI ?_|refine tI ?_|refine fI ?_|fail);conv=>whnf)
      refine⟨r+1,?_,by omega,by dsimp only;omega⟩
      dsimp only
      rw[e]
      exact aR.by_ [(1000, .old 94)] _ 400 rfl (aa) (aa)
     ·rename_i hw
      have e:eG p q sch j++bE p sch j (r+1)=eG p q sch j++bE p sch j r++[⟨5,j,r⟩]:=by
       rw[cY,pn,if_pos ha,if_neg hw,List.append_assoc]
      repeat' ((first|refine nI ?_|refine aI ?_|refine tI ?_|refine fI ?_|fail);conv=>whnf)
      refine⟨r+1,?_,by omega,by dsimp only;omega⟩
      dsimp only
      rw[e]
      exact aR.by_ [(1000, .old 86)] _ 400 rfl (aa) (aa)
    ·rename_i ha
     have e:eG p q sch j++bE p sch j (r+1)=eG p q sch j++bE p sch j r:=by
      rw[cY,pn,if_neg ha,List.append_nil]
     repeat' ((first|refine nI ?_|refine aI ?_|refine tI ?_|refine fI ?_|fail);conv=>whnf)
     refine⟨r+1,?_,by omega,by dsimp only;omega⟩
     dsimp only
     rw[e]
     exact sI
   ·obtain rfl:r=p.rules.length:=by omega
    have e:=rL p q sch j
    repeat' ((first|refine nI ?_|refine aI ?_|refine tI ?_|refine fI ?_|fail);conv=>whnf)
    refine⟨j+1,?_,by omega,by dsimp only;omega⟩
    dsimp only
    rw[e]
    exact sI
  ·obtain rfl:j=sch.length+1:=by omega
   rw[ne]
   exact⟨rfl,rfl⟩
end Go.Proofs.YtekmminpfhacpaaGreatDoor
