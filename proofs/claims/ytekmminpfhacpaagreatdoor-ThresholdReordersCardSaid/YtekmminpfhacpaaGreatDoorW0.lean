import Derived.Test.YtekmminpfhacpaaGreatDoorV1
import Derived.Test.YtekmminpfhacpaaGreatDoorFwX
import Derived.Test.YtekmminpfhacpaaGreatDoorP1
import Derived.Test.YtekmminpfhacpaaGreatDoorFtE
set_option linter.unusedVariables false
set_option linter.unusedSimpArgs false
namespace Go.Proofs.YtekmminpfhacpaaGreatDoor
set_option maxRecDepth 100000
set_option maxHeartbeats 16000000
theorem K4 (l:List Int) (s:Int) (hl:l.length<=4503599627370496):ab Tryz.prog 67 [.sl 0 ao l, .int .i64 s] (fun u=>u= .bool (decide (s∈l))):=by
 refine ab.intro ae ag Tryz.func67 rfl (by decide) ?_;(conv=>whnf)
 refine aQ.loopF ae ag (fun k:Nat=>k<=l.length/\s∉l.take k) (fun k=>[(5, .int .i64 (k:Int))]) (fun _=>[]) (fun k=>l.length-k) 0 ⟨by omega,by simp⟩ ?_;conv=>whnf
 refine⟨sI,?_⟩
 rintro k ⟨hk,ha⟩
 conv=>whnf
 repeat' ((first|refine nI ?_|refine aI ?_|refine fb trivial (by omega) ?_|refine fv trivial (by omega) ?_|refine dI ?_|refine dR ?_|refine dP ?_|refine al rfl ?_|refine pI _ rfl ?_|refine aw _ rfl ?_|refine tI ?_|refine fI ?_|refine ah (fun _=>?_) (fun _=>?_))<;>conv=>whnf)
 ·rename_i h1 h2
  rw[tN] at h2
  refine⟨aH ?_,rfl⟩
  rw[<-h2]
  exact aB _ (by omega)
 ·rename_i h1 h2
  rw[tN] at h2
  refine⟨k+1,sI,⟨by omega,?_⟩,by dsimp only;omega⟩
  rw[ba 0 (by omega),List.mem_append,List.mem_singleton,not_or]
  exact⟨ha,fun e=>h2 e.symm⟩
 ·obtain rfl:k=l.length:=by omega
  rw[List.take_length] at ha
  exact⟨au ha,rfl⟩
theorem my (p:an) (hp:iO p) (hv:aA p=0):ab Tryz.prog 41 [.agg (aR p)] (fun u=>u= .tup [.sl aC b8 (ax p.rules), .int .i64 0]):=by
 refine ab.intro ae ag Tryz.func41 rfl (by decide) ?_;(conv=>whnf)
 refine al rfl ?_
 conv=>whnf
 (refine oP (oT p hp) ?_;conv=>whnf)
 refine fI ?_
 conv=>whnf
 (refine oP (th p (Oy hv)) ?_;conv=>whnf)
 exact⟨rfl,rfl⟩
theorem tw (l:List Int) (hl:l.length<=1000000):ab Tryz.prog 272 [.sl 0 ao l] (fun u=>u= .sl 0 ao l):=by
 refine ab.intro ae ag Tryz.func272 rfl (by decide) ?_;(conv=>whnf)
 refine cf 0 ao [] rfl ?_
 conv=>whnf
 refine cz _ rfl (by simp only[List.length_nil];omega) ?_
 conv=>whnf
 exact⟨rfl,rfl⟩
theorem uT (p:an) (q:aG) (h1:q.start.length<=1000) (h2:p.initial.length<=1000):ab Tryz.prog 211 [.agg (aR p), .agg (df q)] (fun u=>u= .sl 0 ao (bw p q)):=by
 have he:=bw.eq_1 p q
 refine ab.intro ae ag Tryz.func211 rfl (by decide) ?_;(conv=>whnf)
 refine al rfl ?_
 conv=>whnf
 refine al rfl ?_
 conv=>whnf
 refine ah ?_ ?_<;>(intro h;conv=>whnf)
 ·rw[if_pos (by omega)] at he
  (refine oP (tw q.start (by omega)) ?_;conv=>whnf)
  exact⟨he▸rfl,rfl⟩
 ·rw[if_neg (by omega)] at he
  (refine oP (tw p.initial (by omega)) ?_;conv=>whnf)
  exact⟨he▸rfl,rfl⟩
theorem Cw (p:an) (q:aG) (hp:iO p) (hq:pN q) (hv:aP p q=0):ab Tryz.prog 116 [.agg (aR p), .agg (df q)] (fun u=>u= .tup [.sl 0 ao (bw p q), .int .i64 0]):=by
 have a:=bL (eW (aF hv).vld)
 have b:=kg (nz hv)
 refine ab.intro ae ag Tryz.func116 rfl (by decide) ?_;(conv=>whnf)
 refine al rfl ?_
 conv=>whnf
 refine al rfl ?_
 conv=>whnf
 (refine oP (tk p q hp hq) ?_;conv=>whnf)
 refine fI ?_
 conv=>whnf
 (refine oP (uT p q (by omega) (by omega)) ?_;conv=>whnf)
 exact⟨rfl,rfl⟩
theorem K5 (p:an) (q:aG) (hp:iO p) (hv:aA p=0) (hq:q.goal.length<=4503599627370496):ab Tryz.prog 112 [.agg (aR p), .agg (df q)] (fun u=>u= .bool (decide (dZ p/\ji p q))):=by
 have hle:=jh hp
 refine ab.intro ae ag Tryz.func112 rfl (by decide) ?_;(conv=>whnf)
 refine al rfl ?_
 conv=>whnf
 refine al rfl ?_
 conv=>whnf
 refine am.of_pure (n:=5) (KT p hp hv) rfl ?_
 rintro _ ⟨b,c,d,e,rfl⟩
 by_cases ht:dZ p
 case neg=>
  rw[decide_eq_false ht]
  conv=>whnf
  exact⟨au (fun h=>ht h.1),rfl⟩
 rw[decide_eq_true ht]
 conv=>whnf
 refine aQ.loopF ae ag (fun k:Nat=>k<=p.rules.length/\(q.kind=2->∀j,j<k->(p.rules.getD j ap).src∈q.goal->(p.rules.getD j ap).dst∈q.goal)) (fun k=>[(7, .int .i64 (k:Int))]) (fun _=>[(5, .box 272 [.bool true, .bool b, .bool c, .bool d, .bool e])]) (fun k=>p.rules.length-k) 0 ⟨by omega,fun _ j hj=>by omega⟩ ?_;conv=>whnf
 refine⟨sI,?_⟩
 rintro k ⟨hk,ha⟩
 conv=>whnf
 refine ah ?_ ?_<;>(intro h1;conv=>whnf)
 ·have hlt:k<p.rules.length:=by omega
  refine ah ?_ ?_<;>(intro h2;conv=>whnf)
  ·refine dI ?_
   conv=>whnf
   refine nI ?_
   rw[tN]
   conv=>whnf
   refine dD (K4 q.goal _ hq) (fun _=>?_) (fun _=>?_)<;>(conv=>whnf)
   ·rename_i h3
    refine nI ?_
    rw[tN]
    conv=>whnf
    refine dD (K4 q.goal _ hq) (fun _=>?_) (fun _=>?_)<;>(conv=>whnf)
    ·rename_i h4
     repeat' ((first|refine nI ?_|refine aI ?_|refine tI ?_|refine fI ?_|fail);conv=>whnf)
     refine⟨k+1,sI,⟨by omega,fun hh j hj=>?_⟩,by dsimp only;omega⟩
     by_cases e:j=k
     ·subst e;exact fun _=>h4
     ·exact ha hh j (by omega)
    ·rename_i h4
     exact⟨au (fun h=>h4 (h.2 h2 k hlt h3)),rfl⟩
   ·rename_i h3
    repeat' ((first|refine nI ?_|refine aI ?_|refine tI ?_|refine fI ?_|fail);conv=>whnf)
    refine⟨k+1,sI,⟨by omega,fun hh j hj=>?_⟩,by dsimp only;omega⟩
    by_cases e:j=k
    ·subst e;exact fun h=>absurd h h3
    ·exact ha hh j (by omega)
  ·exact⟨aH ⟨ht,fun hh=>absurd hh h2⟩,rfl⟩
 ·exact⟨aH ⟨ht,fun hh j hj=>ha hh j (by omega)⟩,rfl⟩
theorem K6 (p:an) (q:aG) (hv:aA p=0):ab Tryz.prog 43 [.agg (aR p), .agg (df q)] (fun u=>u= .int .i64 (oX p q:Int)):=by
 have hle:=(aL hv).len
 refine ab.intro ae ag Tryz.func43 rfl (by decide) ?_;(conv=>whnf)
 refine al rfl ?_
 conv=>whnf
 refine al rfl ?_
 conv=>whnf
 by_cases hk:q.kind=2
 ·have hN:oX p q=p7 p.rules p.rules.length:=by unfold oX;rw[if_pos hk]
  refine aQ.loopF ae ag (fun k:Nat=>k<=p.rules.length) (fun k=>[(6, .int .i64 (k:Int)),(5, .int .i64 (p7 p.rules k:Int))]) (fun _=>[]) (fun k=>p.rules.length-k) 0 (Nat.zero_le _) ?_;conv=>whnf
  refine⟨sI,?_⟩
  rintro k hk'
  conv=>whnf
  refine ah ?_ ?_<;>(intro h2;conv=>whnf)
  ·have hlt:k<p.rules.length:=by omega
   refine cC hk ?_
   conv=>whnf
   refine nI ?_
   rw[tN]
   conv=>whnf
   have hg:=fq hv k hlt
   have hc:=JO hv (k:=k) (by omega)
   have hn:(p7 p.rules (k+1):Int)=(p7 p.rules k:Int)*(1+((p.rules.getD k ap).guards.length:Int)):=by rw[p7];push_cast;rfl
   have hb:(p7 p.rules k:Int)*(1+((p.rules.getD k ap).guards.length:Int))<=6561*3:=Int.mul_le_mul (by omega) (by omega) (by omega) (by omega)
   have hb0:0<=(p7 p.rules k:Int)*(1+((p.rules.getD k ap).guards.length:Int)):=Int.mul_nonneg (by omega) (by omega)
   refine aI ?_
   conv=>whnf
   refine aI ?_
   conv=>whnf
   repeat' ((first|refine nI ?_|refine aI ?_|refine tI ?_|refine fI ?_|fail);conv=>whnf)
   refine⟨k+1,?_,by omega,by dsimp only;omega⟩
   dsimp only
   rw[hn]
   exact sI
  ·obtain rfl:k=p.rules.length:=by omega
   rw[hN]
   exact⟨rfl,rfl⟩
 ·have hN:oX p q=1:=by unfold oX;rw[if_neg hk]
  refine aQ.loopF ae ag (fun _:Unit=>True) (fun _=>[(6, .int .i64 0),(5, .int .i64 1)]) (fun _=>[]) (fun _=>0) () trivial ?_;conv=>whnf
  refine⟨sI,?_⟩
  rintro _ _
  conv=>whnf
  rw[hN]
  refine ah ?_ ?_<;>(intro h2;conv=>whnf)
  ·refine fP hk ?_
   conv=>whnf
   exact⟨rfl,rfl⟩
  ·exact⟨rfl,rfl⟩
theorem K7 (p:an) (q:aG) (hp:iO p) (hq:pN q):ab Tryz.prog 40 [.agg (aR p), .agg (df q)] (fun u=>u= .int .i64 (cb p q)):=by
 have he:=cb.eq_1 p q
 have hlq:=uB hq
 refine ab.intro ae ag Tryz.func40 rfl (by decide) ?_;(conv=>whnf)
 refine al rfl ?_
 conv=>whnf
 refine al rfl ?_
 conv=>whnf
 (refine oP (tk p q hp hq) ?_;conv=>whnf)
 refine ah ?_ ?_<;>(intro h1;conv=>whnf)
 ·rw[if_pos h1] at he
  exact⟨ac he.symm,rfl⟩
 rw[if_neg h1] at he
 have hv:=(aF (show aP p q=0 by omega)).vld
 refine dC (K5 p q hp hv (by omega)) (fun _=>?_) (fun _=>?_)<;>(conv=>whnf)
 ·rename_i hs
  rw[if_neg (fun h=>h hs)] at he
  (refine oP (K6 p q hv) ?_;conv=>whnf)
  refine ah ?_ ?_<;>(intro h2;conv=>whnf)
  ·rw[if_pos (by omega)] at he
   exact⟨ac he.symm,rfl⟩
  ·rw[if_neg (by omega)] at he
   exact⟨ac he.symm,rfl⟩
 ·rename_i hs
  rw[if_pos hs] at he
  exact⟨ac he.symm,rfl⟩
theorem za (p:an) (hp:iO p) (hv:aA p=0) (l:List Int) (hl:l.length<=140737488355328):ab Tryz.prog 50 [.agg (aR p), .sl 0 ao l] (fun u=>u= .bool (decide (da (ax p.rules).length l))):=by
 have hT:=(aL hv).thr
 refine ab.intro ae ag Tryz.func50 rfl (by decide) ?_;(conv=>whnf)
 refine al rfl ?_
 conv=>whnf
 (refine oP (my p hp hv) ?_;conv=>whnf)
 refine aQ.loopF ae ag (fun k:Nat=>k<=l.length/\∀i,i<k->(0<=l.getD i 0/\l.getD i 0<(ax p.rules).length)/\l.getD i 0∉l.take i) (fun k=>[(7, .int .i64 (k:Int))]) (fun _=>[]) (fun k=>l.length-k) 0 ⟨by omega,fun i hi=>by omega⟩ ?_;conv=>whnf
 refine⟨sI,?_⟩
 rintro k ⟨hk,ha⟩
 conv=>whnf
 refine ah ?_ ?_<;>(intro h1;conv=>whnf)
 ·have hlt:k<l.length:=by omega
  refine dI ?_
  conv=>whnf
  refine nI ?_
  rw[tN]
  conv=>whnf
  refine ah ?_ ?_<;>(intro h2;conv=>whnf)
  ·exact⟨au (fun h=>by have:=(h k hlt).1.1;omega),rfl⟩
  refine nI ?_
  rw[tN]
  conv=>whnf
  refine ah ?_ ?_<;>(intro h3;conv=>whnf)
  ·exact⟨au (fun h=>by have:=(h k hlt).1.2;omega),rfl⟩
  refine nI ?_
  rw[tN]
  conv=>whnf
  refine nI ?_
  rw[tN]
  conv=>whnf
  refine dD (K4 (l.take k) (l.getD k 0) (by simp;omega)) (fun _=>?_) (fun _=>?_)<;>(conv=>whnf)
  ·rename_i h4
   exact⟨au (fun h=>(h k hlt).2 h4),rfl⟩
  ·rename_i h4
   repeat' ((first|refine nI ?_|refine aI ?_|refine tI ?_|refine fI ?_|fail);conv=>whnf)
   refine⟨k+1,sI,⟨by omega,fun i hi=>?_⟩,by dsimp only;omega⟩
   by_cases e:i=k
   ·subst e;exact⟨⟨by omega,by omega⟩,h4⟩
   ·exact ha i (by omega)
 ·exact⟨aH (fun i hi=>ha i (by omega)),rfl⟩
theorem kr (p:an):ab Tryz.prog 117 [.agg (aR p)] (fun u=>u= .bool (decide (jC p))):=by
 refine ab.intro ae ag Tryz.func117 rfl (by decide) ?_;(conv=>whnf)
 refine al rfl ?_
 conv=>whnf
 refine ah ?_ ?_<;>(intro h;conv=>whnf)
 ·exact⟨aH (.inl h),rfl⟩
 ·refine ah ?_ ?_<;>(intro h2;conv=>whnf)
  ·exact⟨aH (.inr h2),rfl⟩
  ·exact⟨au (fun hh=>by rcases hh with hh|hh;exact h hh;exact h2 hh),rfl⟩
def kO (p:an) (a:Int):Int:=(p.rules.getD a.toNat ap).src
theorem uU (p:an) (r:Nat):kO p (r:Int)=(p.rules.getD r ap).src:=by unfold kO;rw[tN]
theorem zb (p:an) (q:aG) (a b:Int) (ha:0<=a/\a<p.rules.length) (hb:0<=b/\b<p.rules.length):ab Tryz.prog 180 [.int .i64 a, .int .i64 b, .pd [.pd (dQ p q)]] (fun u=>u= .int .i64 (j8 (kO p a) (kO p b))):=by
 refine ab.intro ae ag Tryz.func180 rfl (by decide) ?_;(conv=>whnf)
 refine dI ?_
 conv=>whnf
 refine nI ?_
 conv=>whnf
 refine nI ?_
 conv=>whnf
 (refine oC (j9 _ _) ?_;conv=>whnf)
 exact⟨rfl,rfl⟩
def fL (i n:Nat):List Int:=((List.range n).drop i).map fun r:Nat=>(r:Int)
theorem AA {i n:Nat} (h:i<n):fL i n=(i:Int)::fL (i+1) n:=by
 unfold fL
 rw[List.drop_eq_getElem_cons (by simpa using h)]
 simp
theorem Fs (n:Nat):fL n n=[]:=by unfold fL;rw[List.drop_of_length_le (by simp)];rfl
theorem Ft (i n:Nat):(fL i n).length=n-i:=by unfold fL;simp
def NV (p:an) (q:aG):AV:=.fn 180 [.pd [.pd (dQ p q)]]
theorem Fu (p:an) (q:aG) (hn:p.rules.length<=8):am Tryz.prog 285 [.row 8000 p.rules.length 1, .int .i64 0, .int .i64 (p.rules.length:Int),NV p q] (aj.ofL [(8000,b7 (fL 0 p.rules.length))])
  (fun u M=>u= .tup []/\∃L,Ar (kO p) p.rules.length L/\M=aj.ofL [(8000,b7 L)]):=by
 by_cases h0:p.rules.length=0
 ·refine am.norm 400 (R:=fun u M=>u= .tup []/\dV (oG [(8000,b7 (fL 0 p.rules.length))]) 400 M [(8000,b7 (fL 0 p.rules.length))]) ?_ ?_
  ·refine am.intro ae ag [(8000,b7 (fL 0 p.rules.length))] Tryz.func285 rfl (by decide) ?_
   conv=>whnf
   refine aI ?_
   conv=>whnf
   refine aQ.loopF ae ag (fun _:Unit=>True) (fun _=>[(8, .int .i64 1)]) (fun _=>[(8000,b7 (fL 0 p.rules.length))]) (fun _=>0) () trivial ?_;conv=>whnf
   refine⟨sI,?_⟩
   rintro _ _
   conv=>whnf
   refine fI ?_
   conv=>whnf
   exact⟨rfl,(aa)⟩
  ·rintro u M ⟨rfl,hM⟩
   have e:fL 0 p.rules.length=[]:=by rw[h0];rfl
   refine⟨_, .tup [],rfl,hM,trivial,rfl,fL 0 p.rules.length,⟨by rw[e,h0];rfl,by rw[e];simp,fun x=>?_⟩,rfl⟩
   rw[e,h0]
   simp
 refine am.norm 400 (R:=fun u M=>u= .tup []/\∃L,Ar (kO p) p.rules.length L/\dV (oG [(8000,b7 L)]) 400 M [(8000,b7 L)]) ?_ ?_
 ·refine am.intro ae ag [(8000,b7 (fL 0 p.rules.length))] Tryz.func285 rfl (by decide) ?_
  conv=>whnf
  refine aI ?_
  conv=>whnf
  refine aQ.loopF ae ag (fun x:Nat×List Int=>1<=x.1/\x.1<=p.rules.length/\Ar (kO p) x.1 x.2) (fun x=>[(8, .int .i64 (x.1:Int))]) (fun x=>[(8000,b7 (x.2++fL x.1 p.rules.length))]) (fun x=>p.rules.length-x.1) (1,[0]) ⟨by dsimp only;omega,by dsimp only;omega,Ar.one⟩ ?_;conv=>whnf
  refine⟨?_,?_⟩
  ·rw[show([0]:List Int)++fL 1 p.rules.length=fL 0 p.rules.length by rw[AA (i:=0) (by omega)];rfl]
   exact sI
  rintro⟨i,L⟩ ⟨hi1,hi2,hI⟩
  dsimp only at hi1 hi2 hI⊢
  have hl:=hI.len
  conv=>whnf
  refine ah ?_ ?_<;>(intro h1;conv=>whnf)
  ·have hlt:i<p.rules.length:=by omega
   have e1:=AA hlt
   have hR:=Ft (i+1) p.rules.length
   generalize hRe:fL (i+1) p.rules.length=R at e1 hR
   have hge:∀j,j<i->0<=L.getD j 0/\L.getD j 0<p.rules.length:=fun j hj=>by
    obtain⟨r,hr,e⟩:=(hI.mem (L.getD j 0)).1 (aB _ (by omega))
    omega
   refine aQ.loopF ae ag (fun j:Nat=>j<=i/\∀x∈L.drop j,kO p i<kO p x) (fun j=>[(9, .int .i64 (j:Int))]) (fun j=>[(8000,b7 (nE L R i j))]) (fun j=>j) i ⟨Nat.le_refl _,fun x hx=>by rw[List.drop_of_length_le (by omega)] at hx;cases hx⟩ ?_;conv=>whnf
   refine⟨?_,?_⟩
   ·rw[e1,<-hl,<-E1]
    exact sI
   rintro j ⟨hj,ha⟩
   have hlen:=E0 (L:=L) (R:=R) (i:=(i:Int)) (j:=j) (by omega)
   conv=>whnf
   refine dI ?_
   conv=>whnf
   refine ah ?_ ?_<;>(intro h2;conv=>whnf)
   ·have hj0:0<j:=by omega
    obtain⟨m,rfl⟩:∃m,j=m+1:=⟨j-1,by omega⟩
    have ga:=Ij (L:=L) (R:=R) (i:=(i:Int)) (j:=m+1) (by omega)
    have gb:=yZ (L:=L) (R:=R) (i:=(i:Int)) (j:=m) (by omega)
    have gs:=Cl (L:=L) (R:=R) (i:=(i:Int)) (j:=m) (by omega)
    have hm:=hge m (by omega)
    refine nI ?_
    rw[tN]
    conv=>whnf
    refine aI ?_
    conv=>whnf
    refine nI ?_
    rw[show(((m+1:Nat):Int)-1).toNat=m by omega]
    conv=>whnf
    rw[ga,gb]
    (refine oC (zb p q (i:Int) (L.getD m 0) (by omega) hm) ?_;conv=>whnf)
    refine ah ?_ ?_<;>(intro h3;conv=>whnf)
    ·have hlt3:kO p (i:Int)<kO p (L.getD m 0):=by
      unfold j8 at h3
      split at h3
      ·assumption
      ·split at h3<;>omega
     refine dI ?_
     conv=>whnf
     repeat' ((first|refine nI ?_|refine aI ?_|refine tI ?_|refine fI ?_|fail);conv=>whnf)
     rw[tN,show(((m+1:Nat):Int)-1).toNat=m by omega]
     refine aw ((nE L R (i:Int) (m+1)).getD m 0) rfl ?_
     conv=>whnf
     repeat' ((first|refine nI ?_|refine aI ?_|refine tI ?_|refine fI ?_|fail);conv=>whnf)
     refine aw ((nE L R (i:Int) (m+1)).getD (m+1) 0) rfl ?_
     conv=>whnf
     repeat' ((first|refine nI ?_|refine aI ?_|refine tI ?_|refine fI ?_|fail);conv=>whnf)
     refine⟨m,?_,⟨by omega,fun x hx=>?_⟩,by dsimp only;omega⟩
     ·dsimp only
      rw[ga,gb,show(((m+1:Nat):Int)-1).toNat=m by omega,gs]
      exact sI
     ·rw[List.drop_eq_getElem_cons (by omega),List.mem_cons] at hx
      rcases hx with rfl|hx
      ·rw[<-av 0 (by omega)];exact hlt3
      ·exact ha x hx
    ·have hge3:¬kO p (i:Int)<kO p (L.getD m 0):=by
      unfold j8 at h3
      split at h3
      ·omega
      ·assumption
     repeat' ((first|refine nI ?_|refine aI ?_|refine tI ?_|refine fI ?_|fail);conv=>whnf)
     refine⟨(i+1,L.take (m+1)++[(i:Int)]++L.drop (m+1)),?_,⟨by dsimp only;omega,by dsimp only;omega,hI.next hj ha (.inr (by rw[Nat.add_sub_cancel];omega))⟩,by dsimp only;omega⟩
     dsimp only
     rw[hRe]
     exact sI
   ·obtain rfl:j=0:=by omega
    repeat' ((first|refine nI ?_|refine aI ?_|refine tI ?_|refine fI ?_|fail);conv=>whnf)
    refine⟨(i+1,L.take 0++[(i:Int)]++L.drop 0),?_,⟨by dsimp only;omega,by dsimp only;omega,hI.next hj ha (.inl rfl)⟩,by dsimp only;omega⟩
    dsimp only
    rw[hRe]
    exact sI
  ·obtain rfl:i=p.rules.length:=by omega
   rw[Fs,List.append_nil]
   exact⟨rfl,L,hI,(aa)⟩
 ·rintro u M ⟨rfl,L,hI,hM⟩
  exact⟨_, .tup [],rfl,hM,trivial,rfl,L,hI,rfl⟩
def Oz (p:an):AV->aj->Prop:=fun u M=>u= .tup []/\∃L,Ar (kO p) p.rules.length L/\M=aj.ofL [(8000,b7 L)]
theorem Iu (p:an) (q:aG) (hn:p.rules.length<=8):am Tryz.prog 251 [.row 8000 p.rules.length 1, .int .i64 (p.rules.length:Int),NV p q] (aj.ofL [(8000,b7 (fL 0 p.rules.length))]) (Oz p):=by
 refine am.norm 400 (R:=fun u M=>u= .tup []/\∃L,Ar (kO p) p.rules.length L/\dV (oG [(8000,b7 L)]) 400 M [(8000,b7 L)]) ?_ ?_
 ·refine am.intro ae ag [(8000,b7 (fL 0 p.rules.length))] Tryz.func251 rfl (by decide) ?_
  conv=>whnf
  refine aQ.loopF ae ag (fun _:Unit=>True) (fun _=>[(7, .int .i64 0),(8, .int .i64 20)]) (fun _=>[(8000,b7 (fL 0 p.rules.length))]) (fun _=>0) () trivial ?_;conv=>whnf
  refine⟨sI,?_⟩
  rintro _ _
  conv=>whnf
  refine fI ?_
  conv=>whnf
  refine am.call [(8000, .old 8000)] [(8000,b7 (fL 0 p.rules.length))] 400 rfl (aa) (aa) (Fu p q hn) ?_
  rintro u M' ⟨rfl,L,hI,rfl⟩
  refine⟨[(8000, .old 8000)],[(8000,b7 L)], .tup [],rfl,(aa),trivial,?_⟩
  conv=>whnf
  refine aQ.loopF ae ag (fun _:Unit=>True) (fun _=>[(6, .int .i64 20)]) (fun _=>[(8000,b7 L)]) (fun _=>0) () trivial ?_;conv=>whnf
  refine⟨sI,?_⟩
  rintro _ _
  conv=>whnf
  refine fI ?_
  conv=>whnf
  exact⟨rfl,L,hI,(aa)⟩
 ·rintro u M ⟨rfl,L,hI,hM⟩
  exact⟨_, .tup [],rfl,hM,trivial,rfl,L,hI,rfl⟩
theorem xi (p:an) (q:aG) (hn:p.rules.length<=8):am Tryz.prog 179 [.row 8000 p.rules.length 1,NV p q] (aj.ofL [(8000,b7 (fL 0 p.rules.length))]) (Oz p):=by
 refine am.norm 400 (R:=fun u M=>u= .tup []/\∃L,Ar (kO p) p.rules.length L/\dV (oG [(8000,b7 L)]) 400 M [(8000,b7 L)]) ?_ ?_
 ·refine am.intro ae ag [(8000,b7 (fL 0 p.rules.length))] Tryz.func179 rfl (by decide) ?_
  conv=>whnf
  refine am.call [(8000, .old 8000)] [(8000,b7 (fL 0 p.rules.length))] 400 rfl (aa) (aa) (Iu p q hn) ?_
  rintro u M' ⟨rfl,L,hI,rfl⟩
  refine⟨[(8000, .old 8000)],[(8000,b7 L)], .tup [],rfl,(aa),trivial,?_⟩
  conv=>whnf
  exact⟨rfl,L,hI,(aa)⟩
 ·rintro u M ⟨rfl,L,hI,hM⟩
  exact⟨_, .tup [],rfl,hM,trivial,rfl,L,hI,rfl⟩
def sF (k n:Nat):List Int:=((List.range k).map fun r:Nat=>(r:Int))++List.replicate (n-k) 0
theorem Cx (n:Nat):sF 0 n=List.replicate n 0:=by simp[sF]
theorem Fv (n:Nat):sF n n=fL 0 n:=by simp[sF,fL]
theorem Fw {k n:Nat} (h:k<=n):(sF k n).length=n:=by simp[sF];omega
theorem Iv {k n:Nat} (h:k<n):(sF k n).set k (k:Int)=sF (k+1) n:=by
 unfold sF
 rw[List.set_append_right _ _ (by simp),List.length_map,List.length_range,Nat.sub_self,show n-k=(n-(k+1))+1 by omega,List.replicate_succ,List.set_cons_zero,List.range_succ,List.map_append,List.append_assoc]
 rfl
theorem qd {p:an} (hv:aA p=0) (r:Nat) (hr:r<p.rules.length):0<=kO p (r:Int)/\kO p (r:Int)<p.states.length:=by
 rw[uU]
 obtain⟨_,_,_,h4,_,_⟩:=iw ((aL hv).rul r hr)
 exact h4
theorem Fx (p:an) (q:aG) (hv:aA p=0):ab Tryz.prog 91 [.pd (dQ p q)] (fun u=>u= .sl 0 ao (hJ p.rules p.states.length)):=by
 have hn:=(aL hv).len
 refine ab.intro ae ag Tryz.func91 rfl (by decide) ?_;(conv=>whnf)
 refine al rfl ?_
 conv=>whnf
 refine Dw 0 ao 0 rfl (by dsimp only;omega) ?_
 rw[tN]
 conv=>whnf
 refine aQ.loopF ae ag (fun k:Nat=>k<=p.rules.length) (fun k=>[(14, .int .i64 (k:Int))]) (fun k=>[(11,b7 (sF k p.rules.length))]) (fun k=>p.rules.length-k) 0 (Nat.zero_le _) ?_;conv=>whnf
 refine⟨by rw[Cx];exact sI,?_⟩
 rintro k hk
 have hl:=Fw hk
 conv=>whnf
 refine ah ?_ ?_<;>(intro h1;conv=>whnf)
 ·have hup:=Iv (show k<p.rules.length by omega)
  repeat' ((first|refine nI ?_|refine aI ?_|refine tI ?_|refine fI ?_|fail);conv=>whnf)
  rw[tN]
  refine aw (k:Int) rfl ?_
  conv=>whnf
  repeat' ((first|refine nI ?_|refine aI ?_|refine tI ?_|refine fI ?_|fail);conv=>whnf)
  refine⟨k+1,?_,by omega,by dsimp only;omega⟩
  dsimp only
  rw[<-hup]
  exact sI
 ·obtain rfl:k=p.rules.length:=by omega
  rw[Fv]
  refine am.call [(8000, .old 11)] [(8000,b7 (fL 0 p.rules.length))] 400 rfl (aa) (aa) (xi p q (by omega)) ?_
  rintro u M' ⟨rfl,L,hI,rfl⟩
  refine⟨[(11, .old 8000)],[(11,b7 L)], .tup [],rfl,(aa),trivial,?_⟩
  rw[hI.ext (ns:=p.states.length) (qd hv)]
  conv=>whnf
  exact⟨rfl,rfl⟩
def K8 (p:an) (q:aG):AV:=if cb p q≠0 then .tup [.nilsl, .int .i64 (cb p q)] else .tup [.sl 0 ao (hJ p.rules p.states.length), .int .i64 0]
theorem K9 (p:an) (q:aG) (hp:iO p) (hq:pN q):ab Tryz.prog 48 [.agg (aR p), .agg (df q)] (fun u=>u=K8 p q):=by
 have he:=K8.eq_1 p q
 refine ab.intro ae ag Tryz.func48 rfl (by decide) ?_;(conv=>whnf)
 refine al rfl ?_
 conv=>whnf
 refine al rfl ?_
 conv=>whnf
 refine am.of_pure (n:=5) (pD p q hp hq) (by rfl) ?_
 rintro _ rfl
 by_cases h:cb p q=0
 ·rw[if_neg (by omega)] at he
  rw[gy h]
  conv=>whnf
  refine fI ?_
  conv=>whnf
  (refine oP (Fx p q (aF (db h)).vld) ?_;conv=>whnf)
  exact⟨he.symm,rfl⟩
 ·rw[if_pos h] at he
  rw[eX rfl h]
  conv=>whnf
  refine cC h ?_
  conv=>whnf
  exact⟨he.symm,rfl⟩
def Iw (rs:List bo) (x r:Nat):List Int:=((List.range r).filter fun r=>decide ((rs.getD r ap).src=(x:Int))).map fun r:Nat=>(r:Int)
def La (rs:List bo) (x:Nat):List Int:=(List.range x).flatMap fun x=>Iw rs x rs.length
theorem Fy (rs:List bo) (n:Nat):La rs n=hJ rs n:=rfl
theorem Fz (rs:List bo) (x r:Nat):(Iw rs x r).length<=r:=by
 unfold Iw
 have:=List.length_filter_le (fun r=>decide ((rs.getD r ap).src=(x:Int))) (List.range r)
 rw[List.length_map]
 simpa using this
theorem FA (rs:List bo) (x:Nat):(La rs x).length<=rs.length*x:=by
 have:=nG (fun x=>Iw rs x rs.length) rs.length (List.range x) fun a _=>Fz rs a rs.length
 unfold La
 simpa using this
theorem tx (p:an) (hp:iO p) (hv:aA p=0) (sch:List Int) (hs:da (ax p.rules).length sch) (j:Nat) (x:bo) (hx:x.guards.length<=2) (hj:j<=sch.length):ab Tryz.prog 118 [.agg (aR p), .sl 0 ao sch, .int .i64 (j:Int), .agg (eg x)] (fun u=>u= .bool (decide (yY (ax p.rules) sch j x))):=by
 have hT:=(aL hv).thr
 have hsl:=c5 hs
 refine ab.intro ae ag Tryz.func118 rfl (by decide) ?_;(conv=>whnf)
 refine al rfl ?_
 conv=>whnf
 refine al rfl ?_
 conv=>whnf
 (refine oP (my p hp hv) ?_;conv=>whnf)
 refine aQ.loopF ae ag (fun k:Nat=>k<=x.guards.length/\∀i,i<k->∃m,m<j/\(ax p.rules).getD (sch.getD m 0).toNat aC=x.guards.getD i aC) (fun k=>[(11, .int .i64 (k:Int))]) (fun _=>[]) (fun k=>x.guards.length-k) 0 ⟨by omega,fun i hi=>by omega⟩ ?_;conv=>whnf
 refine⟨sI,?_⟩
 rintro k ⟨hk,ha⟩
 conv=>whnf
 refine ah ?_ ?_<;>(intro h1;conv=>whnf)
 ·have hlt:k<x.guards.length:=by omega
  refine aQ.loopF ae ag (fun y:Nat×Bool=>y.1<=j/\(y.2=true↔∃m,m<y.1/\(ax p.rules).getD (sch.getD m 0).toNat aC=x.guards.getD k aC)) (fun y=>[(13, .int .i64 (y.1:Int)),(12, .bool y.2)]) (fun _=>[]) (fun y=>j-y.1) (0,false) ⟨Nat.zero_le _,fun e=>(by cases e),fun⟨m,h,_⟩=>(by omega)⟩ ?_;conv=>whnf
  refine⟨sI,?_⟩
  rintro⟨i,b⟩ ⟨hi,hb⟩
  dsimp only at hi hb⊢
  conv=>whnf
  refine ah ?_ ?_<;>(intro h2;conv=>whnf)
  ·have hil:i<j:=by omega
   have hsi:=(hs i (by omega)).1
   cases b with
   |true=>
    conv=>whnf
    refine dI ?_
    conv=>whnf
    repeat' ((first|refine nI ?_|refine aI ?_|refine tI ?_|refine fI ?_|fail);conv=>whnf)
    refine⟨(i+1,true),sI,⟨by dsimp only;omega,fun _=>?_,fun _=>rfl⟩,by dsimp only;omega⟩
    obtain⟨m,h3,h4⟩:=hb.1 rfl
    exact⟨m,by dsimp only;omega,h4⟩
   |false=>
    have hno:¬∃m,m<i/\(ax p.rules).getD (sch.getD m 0).toNat aC=x.guards.getD k aC:=fun h=>by have:=hb.2 h;cases this
    conv=>whnf
    refine dI ?_
    conv=>whnf
    refine nI ?_
    rw[tN]
    conv=>whnf
    refine nI ?_
    conv=>whnf
    refine nI ?_
    rw[tN]
    conv=>whnf
    refine ah ?_ ?_<;>(intro h3;conv=>whnf)
    ·repeat' ((first|refine nI ?_|refine aI ?_|refine tI ?_|refine fI ?_|fail);conv=>whnf)
     have h3:(ax p.rules).getD (sch.getD i 0).toNat aC=x.guards.getD k aC:=iu.1 h3
     exact⟨(i+1,true),sI,⟨by dsimp only;omega,fun _=>⟨i,by dsimp only;omega,h3⟩,fun _=>rfl⟩,by dsimp only;omega⟩
    ·repeat' ((first|refine nI ?_|refine aI ?_|refine tI ?_|refine fI ?_|fail);conv=>whnf)
     refine⟨(i+1,false),sI,⟨by dsimp only;omega,fun e=>(by cases e),fun⟨m,h4,h5⟩=>?_⟩,by dsimp only;omega⟩
     dsimp only at h4
     by_cases e:m=i
     ·subst e;exact absurd (iu.2 h5) h3
     ·exact absurd ⟨m,by omega,h5⟩ hno
  ·obtain rfl:i=j:=by omega
   cases b with
   |true=>
    conv=>whnf
    repeat' ((first|refine nI ?_|refine aI ?_|refine tI ?_|refine fI ?_|fail);conv=>whnf)
    refine⟨k+1,sI,⟨by omega,fun a hak=>?_⟩,by dsimp only;omega⟩
    by_cases e:a=k
    ·subst e;exact hb.1 rfl
    ·exact ha a (by omega)
   |false=>
    conv=>whnf
    refine⟨au (fun h=>?_),rfl⟩
    have:=hb.2 (h _ (aB (l:=x.guards) aC hlt))
    cases this
 ·refine⟨aH (fun g hg=>?_),rfl⟩
  obtain⟨i,hi,e⟩:=List.getElem_of_mem hg
  have:=ha i (by omega)
  rwa [av aC hi,e] at this
def tz (l:List Vb):cp:=.row 91 dU fp l
theorem zc (p:an) (q:aG) (hp:iO p) (hq:pN q) (hv:aP p q=0) (sch:List Int) (hs:da (ax p.rules).length sch):ab Tryz.prog 51 [.agg (aR p), .agg (df q), .sl 0 ao sch] (fun u=>u= .sl dU fp (ak p q sch)):=by
 have w:=aL (aF hv).vld
 have hle:=w.len
 have hT:=w.thr
 have hsl:=c5 hs
 have hst:(bw p q).length<=6:=by
  have a:=bv (aF hv).start
  have b:=bv w.ini.1
  unfold bw;split<;>omega
 have hil:p.initial.length<=6:=by have b:=bv w.ini.1;omega
 refine ab.intro ae ag Tryz.func51 rfl (by decide) ?_;(conv=>whnf)
 refine al rfl ?_
 conv=>whnf
 refine al rfl ?_
 conv=>whnf
 refine cf dU fp [⟨0,0,0⟩,⟨1,0,0⟩,⟨2,0,0⟩] rfl ?_
 conv=>whnf
 (refine oP (Cw p q hp hq hv) ?_;conv=>whnf)
 refine aQ.loopF ae ag (fun k:Nat=>k<=(bw p q).length) (fun k=>[(17, .top),(10, .int .i64 (k:Int)),(7, .row 1000 (y8 p q k).length 3)]) (fun k=>[(1000,tz (y8 p q k))]) (fun k=>(bw p q).length-k) 0 (Nat.zero_le _) ?_;conv=>whnf
 refine⟨bn.by_ [(1000, .old 17)] _ 400 rfl (aa) (aa),?_⟩
 rintro k hk
 conv=>whnf
 refine ah ?_ ?_<;>(intro h1;conv=>whnf)
 ·have hlt:k<(bw p q).length:=by omega
  have hal:=qa hv k
  refine nI ?_
  rw[tN]
  conv=>whnf
  refine cf dU fp [⟨3,0,(bw p q).getD k 0⟩] rfl ?_
  conv=>whnf
  refine cz [⟨3,0,(bw p q).getD k 0⟩] rfl lI ?_
  conv=>whnf
  repeat' ((first|refine nI ?_|refine aI ?_|refine tI ?_|refine fI ?_|fail);conv=>whnf)
  refine⟨k+1,?_,by omega,by dsimp only;omega⟩
  dsimp only
  rw[Fp p q hlt]
  exact bn.by_ [(1000, .old 37)] _ 400 rfl (aa) (aa)
 obtain rfl:k=(bw p q).length:=by omega
 refine aQ.loopF ae ag (fun k:Nat=>k<=p.initial.length/\(k≠0->jC p)) (fun k=>[(11, .int .i64 (k:Int)),(7, .row 1000 (uQ p q k).length 3)]) (fun k=>[(1000,tz (uQ p q k))]) (fun k=>p.initial.length-k) 0 ⟨Nat.zero_le _,fun h=>absurd rfl h⟩ ?_;conv=>whnf
 refine⟨by rw[show uQ p q 0=y8 p q (bw p q).length by unfold uQ;simp];exact sI,?_⟩
 rintro k ⟨hk2,hkw⟩
 conv=>whnf
 refine ah ?_ ?_<;>(intro h3;conv=>whnf)
 ·have hlt:k<p.initial.length:=by omega
  have hbl:=uS hv k
  refine dC (kr p) (fun _=>?_) (fun _=>?_)<;>(conv=>whnf)
  ·rename_i hw
   refine nI ?_
   rw[tN]
   conv=>whnf
   refine cf dU fp [⟨4,0,p.initial.getD k 0⟩] rfl ?_
   conv=>whnf
   refine cz [⟨4,0,p.initial.getD k 0⟩] rfl lI ?_
   conv=>whnf
   repeat' ((first|refine nI ?_|refine aI ?_|refine tI ?_|refine fI ?_|fail);conv=>whnf)
   refine⟨k+1,?_,⟨by omega,fun _=>hw⟩,by dsimp only;omega⟩
   dsimp only
   rw[Fq p q hlt]
   exact bn.by_ [(1000, .old 57)] _ 400 rfl (aa) (aa)
  ·rename_i hw
   obtain rfl:k=0:=Classical.byContradiction fun h=>hw (hkw h)
   have hC:fK p q sch 0=uQ p q 0:=by unfold fK It;rw[if_neg hw];unfold uQ;simp
   refine aQ.loopF ae ag (fun j:Nat=>j<=sch.length+1) (fun j=>[(12, .int .i64 (j:Int)),(7, .row 1000 (fK p q sch j).length 3)]) (fun j=>[(1000,tz (fK p q sch j))]) (fun j=>sch.length+1-j) 0 (Nat.zero_le _) ?_;conv=>whnf
   refine⟨by rw[hC];exact sI,?_⟩
   rintro j hj
   conv=>whnf
   refine ah ?_ ?_<;>(intro h1;conv=>whnf)
   ·have hDl:=qb hv hs j hj
    refine aQ.loopF ae ag (fun r:Nat=>r<=p.rules.length) (fun r=>[(13, .int .i64 (r:Int)),(7, .row 1000 (fK p q sch j++bN p sch j r).length 3)]) (fun r=>[(1000,tz (fK p q sch j++bN p sch j r))]) (fun r=>p.rules.length-r) 0 (Nat.zero_le _) ?_;conv=>whnf
    refine⟨by rw[l7];exact sI,?_⟩
    rintro r hr
    conv=>whnf
    refine ah ?_ ?_<;>(intro h2;conv=>whnf)
    ·have hrl:r<p.rules.length:=by omega
     have hsl:=jD p sch j r
     have hll:(fK p q sch j++bN p sch j r).length<=1000:=by rw[List.length_append];omega
     refine dI ?_
     conv=>whnf
     refine nI ?_
     rw[tN]
     conv=>whnf
     refine dD (tx p hp (aF hv).vld sch hs j (p.rules.getD r ap) (fq (aF hv).vld r hrl) (by omega)) (fun _=>?_) (fun _=>?_)<;>(conv=>whnf)
     ·rename_i ha
      refine cf dU fp [⟨5,j,r⟩] rfl ?_
      conv=>whnf
      refine cz [⟨5,j,r⟩] rfl lI ?_
      conv=>whnf
      refine dC (kr p) (fun _=>?_) (fun _=>?_)<;>(conv=>whnf)
      ·rename_i hw
       have e:fK p q sch j++bN p sch j (r+1)=fK p q sch j++bN p sch j r++[⟨5,j,r⟩]++[⟨6,j,r⟩]:=by
        rw[dB,rm,if_pos ha,if_pos hw,List.append_assoc,List.append_assoc];rfl
       refine cf dU fp [⟨6,j,r⟩] rfl ?_
       conv=>whnf
       refine cz [⟨6,j,r⟩] rfl (by simp only[List.length_append,List.length_cons,List.length_nil] at hll⊢;omega) ?_
       conv=>whnf
       repeat' ((first|refine nI ?_|refine aI ?_|refine tI ?_|refine fI ?_|fail);conv=>whnf)
       refine⟨r+1,?_,by omega,by dsimp only;omega⟩
       dsimp only
       rw[e]
       exact bn.by_ [(1000, .old 94)] _ 400 rfl (aa) (aa)
      ·rename_i hw
       have e:fK p q sch j++bN p sch j (r+1)=fK p q sch j++bN p sch j r++[⟨5,j,r⟩]:=by
        rw[dB,rm,if_pos ha,if_neg hw,List.append_assoc]
       repeat' ((first|refine nI ?_|refine aI ?_|refine tI ?_|refine fI ?_|fail);conv=>whnf)
       refine⟨r+1,?_,by omega,by dsimp only;omega⟩
       dsimp only
       rw[e]
       exact bn.by_ [(1000, .old 86)] _ 400 rfl (aa) (aa)
     ·rename_i ha
      have e:fK p q sch j++bN p sch j (r+1)=fK p q sch j++bN p sch j r:=by
       rw[dB,rm,if_neg ha,List.append_nil]
      repeat' ((first|refine nI ?_|refine aI ?_|refine tI ?_|refine fI ?_|fail);conv=>whnf)
      refine⟨r+1,?_,by omega,by dsimp only;omega⟩
      dsimp only
      rw[e]
      exact sI
    ·obtain rfl:r=p.rules.length:=by omega
     have e:=uR p q sch j
     repeat' ((first|refine nI ?_|refine aI ?_|refine tI ?_|refine fI ?_|fail);conv=>whnf)
     refine⟨j+1,?_,by omega,by dsimp only;omega⟩
     dsimp only
     rw[e]
     exact sI
   ·obtain rfl:j=sch.length+1:=by omega
    rw[p9]
    exact⟨rfl,rfl⟩
 ·obtain rfl:k=p.initial.length:=by omega
  have hini:=w.ini.2.1
  have hw:=hkw (by omega)
  have hC:fK p q sch 0=uQ p q p.initial.length:=by unfold fK It;rw[if_pos hw];simp
  refine aQ.loopF ae ag (fun j:Nat=>j<=sch.length+1) (fun j=>[(12, .int .i64 (j:Int)),(7, .row 1000 (fK p q sch j).length 3)]) (fun j=>[(1000,tz (fK p q sch j))]) (fun j=>sch.length+1-j) 0 (Nat.zero_le _) ?_;conv=>whnf
  refine⟨by rw[hC];exact sI,?_⟩
  rintro j hj
  conv=>whnf
  refine ah ?_ ?_<;>(intro h1;conv=>whnf)
  ·have hDl:=qb hv hs j hj
   refine aQ.loopF ae ag (fun r:Nat=>r<=p.rules.length) (fun r=>[(13, .int .i64 (r:Int)),(7, .row 1000 (fK p q sch j++bN p sch j r).length 3)]) (fun r=>[(1000,tz (fK p q sch j++bN p sch j r))]) (fun r=>p.rules.length-r) 0 (Nat.zero_le _) ?_;conv=>whnf
   refine⟨by rw[l7];exact sI,?_⟩
   rintro r hr
   conv=>whnf
   refine ah ?_ ?_<;>(intro h2;conv=>whnf)
   ·have hrl:r<p.rules.length:=by omega
    have hsl:=jD p sch j r
    have hll:(fK p q sch j++bN p sch j r).length<=1000:=by rw[List.length_append];omega
    refine dI ?_
    conv=>whnf
    refine nI ?_
    rw[tN]
    conv=>whnf
    refine dD (tx p hp (aF hv).vld sch hs j (p.rules.getD r ap) (fq (aF hv).vld r hrl) (by omega)) (fun _=>?_) (fun _=>?_)<;>(conv=>whnf)
    ·rename_i ha
     refine cf dU fp [⟨5,j,r⟩] rfl ?_
     conv=>whnf
     refine cz [⟨5,j,r⟩] rfl lI ?_
     conv=>whnf
     refine dC (kr p) (fun _=>?_) (fun _=>?_)<;>(conv=>whnf)
     ·rename_i hw
      have e:fK p q sch j++bN p sch j (r+1)=fK p q sch j++bN p sch j r++[⟨5,j,r⟩]++[⟨6,j,r⟩]:=by
       rw[dB,rm,if_pos ha,if_pos hw,List.append_assoc,List.append_assoc];rfl
      refine cf dU fp [⟨6,j,r⟩] rfl ?_
      conv=>whnf
      refine cz [⟨6,j,r⟩] rfl (by simp only[List.length_append,List.length_cons,List.length_nil] at hll⊢;omega) ?_
      conv=>whnf
      repeat' ((first|refine nI ?_|refine aI ?_|refine tI ?_|refine fI ?_|fail);conv=>whnf)
      refine⟨r+1,?_,by omega,by dsimp only;omega⟩
      dsimp only
      rw[e]
      exact bn.by_ [(1000, .old 94)] _ 400 rfl (aa) (aa)
     ·rename_i hw
      have e:fK p q sch j++bN p sch j (r+1)=fK p q sch j++bN p sch j r++[⟨5,j,r⟩]:=by
       rw[dB,rm,if_pos ha,if_neg hw,List.append_assoc]
      repeat' ((first|refine nI ?_|refine aI ?_|refine tI ?_|refine fI ?_|fail);conv=>whnf)
      refine⟨r+1,?_,by omega,by dsimp only;omega⟩
      dsimp only
      rw[e]
      exact bn.by_ [(1000, .old 86)] _ 400 rfl (aa) (aa)
    ·rename_i ha
     have e:fK p q sch j++bN p sch j (r+1)=fK p q sch j++bN p sch j r:=by
      rw[dB,rm,if_neg ha,List.append_nil]
     repeat' ((first|refine nI ?_|refine aI ?_|refine tI ?_|refine fI ?_|fail);conv=>whnf)
     refine⟨r+1,?_,by omega,by dsimp only;omega⟩
     dsimp only
     rw[e]
     exact sI
   ·obtain rfl:r=p.rules.length:=by omega
    have e:=uR p q sch j
    repeat' ((first|refine nI ?_|refine aI ?_|refine tI ?_|refine fI ?_|fail);conv=>whnf)
    refine⟨j+1,?_,by omega,by dsimp only;omega⟩
    dsimp only
    rw[e]
    exact sI
  ·obtain rfl:j=sch.length+1:=by omega
   rw[p9]
   exact⟨rfl,rfl⟩
theorem zd (p:an) (q:aG) (hp:iO p) (hq:pN q) (sch:List Int) (hl:sch.length<=140737488355328):ab Tryz.prog 31 [.agg (aR p), .agg (df q), .sl 0 ao sch] (fun u=>u=Cu p q sch):=by
 have he:=Cu.eq_1 p q sch
 refine ab.intro ae ag Tryz.func31 rfl (by decide) ?_;(conv=>whnf)
 refine al rfl ?_
 conv=>whnf
 refine al rfl ?_
 conv=>whnf
 (refine oP (K7 p q hp hq) ?_;conv=>whnf)
 refine ah ?_ ?_<;>(intro h;conv=>whnf)
 ·rw[if_pos h] at he
  exact⟨he.symm,rfl⟩
 have h0:cb p q=0:=by omega
 rw[if_neg h] at he
 refine dC (za p hp (aF (db h0)).vld sch hl) (fun _=>?_) (fun _=>?_)<;>(conv=>whnf)
 ·rename_i hs
  rw[if_neg (fun hh=>hh hs)] at he
  (refine oP (zc p q hp hq (db h0) sch hs) ?_;conv=>whnf)
  exact⟨he.symm,rfl⟩
 ·rename_i hs
  rw[if_pos hs] at he
  exact⟨he.symm,rfl⟩
end Go.Proofs.YtekmminpfhacpaaGreatDoor
