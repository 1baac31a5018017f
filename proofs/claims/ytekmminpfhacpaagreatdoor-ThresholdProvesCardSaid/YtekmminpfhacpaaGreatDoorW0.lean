import Derived.Test.YtekmminpfhacpaaGreatDoorV1
import Derived.Test.YtekmminpfhacpaaGreatDoorFtE
set_option linter.unusedVariables false
set_option linter.unusedSimpArgs false
namespace Go.Proofs.YtekmminpfhacpaaGreatDoor
set_option maxRecDepth 100000
set_option maxHeartbeats 16000000
theorem Bu (l:List Int) (s:Int) (hl:l.length<=4503599627370496):ah Tryz.prog 67 [.sl 0 al l, .int .i64 s] (fun u=>u= .bool (decide (s∈l))):=by
 refine ah.intro ab ac Tryz.func67 rfl (by decide) ?_;(conv=>whnf)
 refine aJ.loopF ab ac (fun k:Nat=>k<=l.length/\s∉l.take k) (fun k=>[(5, .int .i64 (k:Int))]) (fun _=>[]) (fun k=>l.length-k) 0 ⟨by omega,by simp⟩ ?_;conv=>whnf
 refine⟨sI,?_⟩
 rintro k ⟨hk,ha⟩
 conv=>whnf
 repeat' ((first|refine nI ?_|refine aI ?_|refine uI ?_|refine vI ?_|refine dI ?_|refine dR ?_|refine dP ?_|refine au rfl ?_|refine pI _ rfl ?_|refine ak _ rfl ?_|refine tI ?_|refine fI ?_|refine ae (fun _=>?_) (fun _=>?_))<;>conv=>whnf)
 ·rename_i h1 h2
  rw[tN] at h2
  refine⟨bE ?_,rfl⟩
  rw[<-h2]
  exact bu _ (by omega)
 ·rename_i h1 h2
  rw[tN] at h2
  refine⟨k+1,sI,⟨by omega,?_⟩,by dsimp only;omega⟩
  rw[cp 0 (by omega),List.mem_append,List.mem_singleton,not_or]
  exact⟨ha,fun e=>h2 e.symm⟩
 ·obtain rfl:k=l.length:=by omega
  rw[List.take_length] at ha
  exact⟨aA ha,rfl⟩
theorem im (p:av) (hp:lO p) (hv:aX p=0):ah Tryz.prog 41 [.agg (cV p)] (fun u=>u= .tup [.sl aM cg (ay p.rules), .int .i64 0]):=by
 refine ah.intro ab ac Tryz.func41 rfl (by decide) ?_;(conv=>whnf)
 refine au rfl ?_
 conv=>whnf
 (refine oP (qt p hp) ?_;conv=>whnf)
 refine fI ?_
 conv=>whnf
 (refine oP (vF p (QE hv)) ?_;conv=>whnf)
 exact⟨rfl,rfl⟩
theorem vV (l:List Int) (hl:l.length<=1000000):ah Tryz.prog 272 [.sl 0 al l] (fun u=>u= .sl 0 al l):=by
 refine ah.intro ab ac Tryz.func272 rfl (by decide) ?_;(conv=>whnf)
 refine bp 0 al [] rfl ?_
 conv=>whnf
 refine bq _ rfl (by simp only[List.length_nil];omega) ?_
 conv=>whnf
 exact⟨rfl,rfl⟩
theorem xk (p:av) (q:aP) (h1:q.start.length<=1000) (h2:p.initial.length<=1000):ah Tryz.prog 211 [.agg (cV p), .agg (eO q)] (fun u=>u= .sl 0 al (dJ p q)):=by
 have he:=dJ.eq_1 p q
 refine ah.intro ab ac Tryz.func211 rfl (by decide) ?_;(conv=>whnf)
 refine au rfl ?_
 conv=>whnf
 refine au rfl ?_
 conv=>whnf
 refine ae ?_ ?_<;>(intro h;conv=>whnf)
 ·rw[if_pos (by omega)] at he
  (refine oP (vV q.start (by omega)) ?_;conv=>whnf)
  exact⟨he▸rfl,rfl⟩
 ·rw[if_neg (by omega)] at he
  (refine oP (vV p.initial (by omega)) ?_;conv=>whnf)
  exact⟨he▸rfl,rfl⟩
theorem EC (p:av) (q:aP) (hp:lO p) (hq:rS q) (hv:bD p q=0):ah Tryz.prog 116 [.agg (cV p), .agg (eO q)] (fun u=>u= .tup [.sl 0 al (dJ p q), .int .i64 0]):=by
 have a:=rQ (rV (aW hv).vld)
 have b:=w6 (zh hv)
 refine ah.intro ab ac Tryz.func116 rfl (by decide) ?_;(conv=>whnf)
 refine au rfl ?_
 conv=>whnf
 refine au rfl ?_
 conv=>whnf
 (refine oP (vM p q hp hq) ?_;conv=>whnf)
 refine fI ?_
 conv=>whnf
 (refine oP (xk p q (by omega) (by omega)) ?_;conv=>whnf)
 exact⟨rfl,rfl⟩
theorem Ml (p:av) (q:aP) (hp:lO p) (hv:aX p=0) (hq:q.goal.length<=4503599627370496):ah Tryz.prog 112 [.agg (cV p), .agg (eO q)] (fun u=>u= .bool (decide (mE p/\od p q))):=by
 have hle:=kj hp
 refine ah.intro ab ac Tryz.func112 rfl (by decide) ?_;(conv=>whnf)
 refine au rfl ?_
 conv=>whnf
 refine au rfl ?_
 conv=>whnf
 refine aj.of_pure (n:=5) (Mc p hp hv) rfl ?_
 rintro _ ⟨b,c,d,e,rfl⟩
 by_cases ht:mE p
 case neg=>
  rw[decide_eq_false ht]
  conv=>whnf
  exact⟨aA (fun h=>ht h.1),rfl⟩
 rw[decide_eq_true ht]
 conv=>whnf
 refine aJ.loopF ab ac (fun k:Nat=>k<=p.rules.length/\(q.kind=2->∀j,j<k->(p.rules.getD j ax).src∈q.goal->(p.rules.getD j ax).dst∈q.goal)) (fun k=>[(7, .int .i64 (k:Int))]) (fun _=>[(5, .box 272 [.bool true, .bool b, .bool c, .bool d, .bool e])]) (fun k=>p.rules.length-k) 0 ⟨by omega,fun _ j hj=>by omega⟩ ?_;conv=>whnf
 refine⟨sI,?_⟩
 rintro k ⟨hk,ha⟩
 conv=>whnf
 refine ae ?_ ?_<;>(intro h1;conv=>whnf)
 ·have hlt:k<p.rules.length:=by omega
  refine ae ?_ ?_<;>(intro h2;conv=>whnf)
  ·refine dI ?_
   conv=>whnf
   refine nI ?_
   rw[tN]
   conv=>whnf
   refine dD (Bu q.goal _ hq) (fun _=>?_) (fun _=>?_)<;>(conv=>whnf)
   ·rename_i h3
    refine nI ?_
    rw[tN]
    conv=>whnf
    refine dD (Bu q.goal _ hq) (fun _=>?_) (fun _=>?_)<;>(conv=>whnf)
    ·rename_i h4
     repeat' ((first|refine nI ?_|refine aI ?_|refine tI ?_|refine fI ?_|fail);conv=>whnf)
     refine⟨k+1,sI,⟨by omega,fun hh j hj=>?_⟩,by dsimp only;omega⟩
     by_cases e:j=k
     ·subst e;exact fun _=>h4
     ·exact ha hh j (by omega)
    ·rename_i h4
     exact⟨aA (fun h=>h4 (h.2 h2 k hlt h3)),rfl⟩
   ·rename_i h3
    repeat' ((first|refine nI ?_|refine aI ?_|refine tI ?_|refine fI ?_|fail);conv=>whnf)
    refine⟨k+1,sI,⟨by omega,fun hh j hj=>?_⟩,by dsimp only;omega⟩
    by_cases e:j=k
    ·subst e;exact fun h=>absurd h h3
    ·exact ha hh j (by omega)
  ·exact⟨bE ⟨ht,fun hh=>absurd hh h2⟩,rfl⟩
 ·exact⟨bE ⟨ht,fun hh j hj=>ha hh j (by omega)⟩,rfl⟩
theorem xl (p:av) (q:aP) (hv:aX p=0):ah Tryz.prog 43 [.agg (cV p), .agg (eO q)] (fun u=>u= .int .i64 (db p q:Int)):=by
 have hle:=(aN hv).len
 refine ah.intro ab ac Tryz.func43 rfl (by decide) ?_;(conv=>whnf)
 refine au rfl ?_
 conv=>whnf
 refine au rfl ?_
 conv=>whnf
 by_cases hk:q.kind=2
 ·have hN:db p q=uN p.rules p.rules.length:=by unfold db;rw[if_pos hk]
  refine aJ.loopF ab ac (fun k:Nat=>k<=p.rules.length) (fun k=>[(6, .int .i64 (k:Int)),(5, .int .i64 (uN p.rules k:Int))]) (fun _=>[]) (fun k=>p.rules.length-k) 0 (Nat.zero_le _) ?_;conv=>whnf
  refine⟨sI,?_⟩
  rintro k hk'
  conv=>whnf
  refine ae ?_ ?_<;>(intro h2;conv=>whnf)
  ·have hlt:k<p.rules.length:=by omega
   refine cO hk ?_
   conv=>whnf
   refine nI ?_
   rw[tN]
   conv=>whnf
   have hg:=ew hv k hlt
   have hc:=KU hv (k:=k) (by omega)
   have hn:(uN p.rules (k+1):Int)=(uN p.rules k:Int)*(1+((p.rules.getD k ax).guards.length:Int)):=by rw[uN];push_cast;rfl
   have hb:(uN p.rules k:Int)*(1+((p.rules.getD k ax).guards.length:Int))<=6561*3:=Int.mul_le_mul (by omega) (by omega) (by omega) (by omega)
   have hb0:0<=(uN p.rules k:Int)*(1+((p.rules.getD k ax).guards.length:Int)):=Int.mul_nonneg (by omega) (by omega)
   refine aI ?_
   conv=>whnf
   refine aI ?_
   conv=>whnf
   repeat' ((first|refine nI ?_|refine aI ?_|refine tI ?_|refine fI ?_|fail);conv=>whnf)
   refine⟨k+1,?_,by omega,by dsimp only;omega⟩
   dsimp only
   rw[hn]
   exact sI
  ·obtain rfl:k=p.rules.length:=by omega
   rw[hN]
   exact⟨rfl,rfl⟩
 ·have hN:db p q=1:=by unfold db;rw[if_neg hk]
  refine aJ.loopF ab ac (fun _:Unit=>True) (fun _=>[(6, .int .i64 0),(5, .int .i64 1)]) (fun _=>[]) (fun _=>0) () trivial ?_;conv=>whnf
  refine⟨sI,?_⟩
  rintro _ _
  conv=>whnf
  rw[hN]
  refine ae ?_ ?_<;>(intro h2;conv=>whnf)
  ·refine cX hk ?_
   conv=>whnf
   exact⟨rfl,rfl⟩
  ·exact⟨rfl,rfl⟩
theorem Bv (p:av) (q:aP) (hp:lO p) (hq:rS q):ah Tryz.prog 40 [.agg (cV p), .agg (eO q)] (fun u=>u= .int .i64 (dq p q)):=by
 have he:=dq.eq_1 p q
 have hlq:=w7 hq
 refine ah.intro ab ac Tryz.func40 rfl (by decide) ?_;(conv=>whnf)
 refine au rfl ?_
 conv=>whnf
 refine au rfl ?_
 conv=>whnf
 (refine oP (vM p q hp hq) ?_;conv=>whnf)
 refine ae ?_ ?_<;>(intro h1;conv=>whnf)
 ·rw[if_pos h1] at he
  exact⟨ao he.symm,rfl⟩
 rw[if_neg h1] at he
 have hv:=(aW (show bD p q=0 by omega)).vld
 refine dC (Ml p q hp hv (by omega)) (fun _=>?_) (fun _=>?_)<;>(conv=>whnf)
 ·rename_i hs
  rw[if_neg (fun h=>h hs)] at he
  (refine oP (xl p q hv) ?_;conv=>whnf)
  refine ae ?_ ?_<;>(intro h2;conv=>whnf)
  ·rw[if_pos (by omega)] at he
   exact⟨ao he.symm,rfl⟩
  ·rw[if_neg (by omega)] at he
   exact⟨ao he.symm,rfl⟩
 ·rename_i hs
  rw[if_pos hs] at he
  exact⟨ao he.symm,rfl⟩
theorem Mm (p:av) (q:aP) (hp:lO p) (hq:rS q):ah Tryz.prog 12 [.agg (cV p), .agg (eO q)] (fun u=>u= .tup [.int .i64 (if dq p q=0 then(db p q:Int) else 0), .int .i64 (dq p q)]):=by
 refine ah.intro ab ac Tryz.func12 rfl (by decide) ?_;(conv=>whnf)
 refine au rfl ?_
 conv=>whnf
 refine au rfl ?_
 conv=>whnf
 (refine oP (Bv p q hp hq) ?_;conv=>whnf)
 refine ae ?_ ?_<;>(intro h1;conv=>whnf)
 ·rw[if_neg h1]
  exact⟨rfl,rfl⟩
 ·have h0:dq p q=0:=by omega
  rw[if_pos h0,h0]
  (refine oP (xl p q (aW (du h0)).vld) ?_;conv=>whnf)
  exact⟨rfl,rfl⟩
theorem Bw (p:av) (hp:lO p) (hv:aX p=0) (l:List Int) (hl:l.length<=140737488355328):ah Tryz.prog 50 [.agg (cV p), .sl 0 al l] (fun u=>u= .bool (decide (dS (ay p.rules).length l))):=by
 have hT:=(aN hv).thr
 refine ah.intro ab ac Tryz.func50 rfl (by decide) ?_;(conv=>whnf)
 refine au rfl ?_
 conv=>whnf
 (refine oP (im p hp hv) ?_;conv=>whnf)
 refine aJ.loopF ab ac (fun k:Nat=>k<=l.length/\∀i,i<k->(0<=l.getD i 0/\l.getD i 0<(ay p.rules).length)/\l.getD i 0∉l.take i) (fun k=>[(7, .int .i64 (k:Int))]) (fun _=>[]) (fun k=>l.length-k) 0 ⟨by omega,fun i hi=>by omega⟩ ?_;conv=>whnf
 refine⟨sI,?_⟩
 rintro k ⟨hk,ha⟩
 conv=>whnf
 refine ae ?_ ?_<;>(intro h1;conv=>whnf)
 ·have hlt:k<l.length:=by omega
  refine dI ?_
  conv=>whnf
  refine nI ?_
  rw[tN]
  conv=>whnf
  refine ae ?_ ?_<;>(intro h2;conv=>whnf)
  ·exact⟨aA (fun h=>by have:=(h k hlt).1.1;omega),rfl⟩
  refine nI ?_
  rw[tN]
  conv=>whnf
  refine ae ?_ ?_<;>(intro h3;conv=>whnf)
  ·exact⟨aA (fun h=>by have:=(h k hlt).1.2;omega),rfl⟩
  refine nI ?_
  rw[tN]
  conv=>whnf
  refine nI ?_
  rw[tN]
  conv=>whnf
  refine dD (Bu (l.take k) (l.getD k 0) (by simp;omega)) (fun _=>?_) (fun _=>?_)<;>(conv=>whnf)
  ·rename_i h4
   exact⟨aA (fun h=>(h k hlt).2 h4),rfl⟩
  ·rename_i h4
   repeat' ((first|refine nI ?_|refine aI ?_|refine tI ?_|refine fI ?_|fail);conv=>whnf)
   refine⟨k+1,sI,⟨by omega,fun i hi=>?_⟩,by dsimp only;omega⟩
   by_cases e:i=k
   ·subst e;exact⟨⟨by omega,by omega⟩,h4⟩
   ·exact ha i (by omega)
 ·exact⟨bE (fun i hi=>ha i (by omega)),rfl⟩
theorem fu (p:av):ah Tryz.prog 117 [.agg (cV p)] (fun u=>u= .bool (decide (jZ p))):=by
 refine ah.intro ab ac Tryz.func117 rfl (by decide) ?_;(conv=>whnf)
 refine au rfl ?_
 conv=>whnf
 refine ae ?_ ?_<;>(intro h;conv=>whnf)
 ·exact⟨bE (.inl h),rfl⟩
 ·refine ae ?_ ?_<;>(intro h2;conv=>whnf)
  ·exact⟨bE (.inr h2),rfl⟩
  ·exact⟨aA (fun hh=>by rcases hh with hh|hh;exact h hh;exact h2 hh),rfl⟩
def kO (p:av) (a:Int):Int:=(p.rules.getD a.toNat ax).src
theorem Mn (p:av) (r:Nat):kO p (r:Int)=(p.rules.getD r ax).src:=by unfold kO;rw[tN]
theorem Bx (p:av) (q:aP) (a b:Int) (ha:0<=a/\a<p.rules.length) (hb:0<=b/\b<p.rules.length):ah Tryz.prog 180 [.int .i64 a, .int .i64 b, .pd [.pd (fE p q)]] (fun u=>u= .int .i64 (wX (kO p a) (kO p b))):=by
 refine ah.intro ab ac Tryz.func180 rfl (by decide) ?_;(conv=>whnf)
 refine dI ?_
 conv=>whnf
 refine nI ?_
 conv=>whnf
 refine nI ?_
 conv=>whnf
 (refine oC (A8 _ _) ?_;conv=>whnf)
 exact⟨rfl,rfl⟩
def gF (i n:Nat):List Int:=((List.range n).drop i).map fun r:Nat=>(r:Int)
theorem CS {i n:Nat} (h:i<n):gF i n=(i:Int)::gF (i+1) n:=by
 unfold gF
 rw[List.drop_eq_getElem_cons (by simpa using h)]
 simp
theorem GY (n:Nat):gF n n=[]:=by unfold gF;rw[List.drop_of_length_le (by simp)];rfl
theorem GZ (i n:Nat):(gF i n).length=n-i:=by unfold gF;simp
def PP (p:av) (q:aP):AV:=.fn 180 [.pd [.pd (fE p q)]]
theorem G0 (p:av) (q:aP) (hn:p.rules.length<=8):aj Tryz.prog 285 [.row 8000 p.rules.length 1, .int .i64 0, .int .i64 (p.rules.length:Int),PP p q] (ag.ofL [(8000,fW (gF 0 p.rules.length))])
  (fun u M=>u= .tup []/\∃L,CL (kO p) p.rules.length L/\M=ag.ofL [(8000,fW L)]):=by
 by_cases h0:p.rules.length=0
 ·refine aj.norm 400 (R:=fun u M=>u= .tup []/\bG (lV [(8000,fW (gF 0 p.rules.length))]) 400 M [(8000,fW (gF 0 p.rules.length))]) ?_ ?_
  ·refine aj.intro ab ac [(8000,fW (gF 0 p.rules.length))] Tryz.func285 rfl (by decide) ?_
   conv=>whnf
   refine aI ?_
   conv=>whnf
   refine aJ.loopF ab ac (fun _:Unit=>True) (fun _=>[(8, .int .i64 1)]) (fun _=>[(8000,fW (gF 0 p.rules.length))]) (fun _=>0) () trivial ?_;conv=>whnf
   refine⟨sI,?_⟩
   rintro _ _
   conv=>whnf
   refine fI ?_
   conv=>whnf
   exact⟨rfl,(aa)⟩
  ·rintro u M ⟨rfl,hM⟩
   have e:gF 0 p.rules.length=[]:=by rw[h0];rfl
   refine⟨_, .tup [],rfl,hM,trivial,rfl,gF 0 p.rules.length,⟨by rw[e,h0];rfl,by rw[e];simp,fun x=>?_⟩,rfl⟩
   rw[e,h0]
   simp
 refine aj.norm 400 (R:=fun u M=>u= .tup []/\∃L,CL (kO p) p.rules.length L/\bG (lV [(8000,fW L)]) 400 M [(8000,fW L)]) ?_ ?_
 ·refine aj.intro ab ac [(8000,fW (gF 0 p.rules.length))] Tryz.func285 rfl (by decide) ?_
  conv=>whnf
  refine aI ?_
  conv=>whnf
  refine aJ.loopF ab ac (fun x:Nat×List Int=>1<=x.1/\x.1<=p.rules.length/\CL (kO p) x.1 x.2) (fun x=>[(8, .int .i64 (x.1:Int))]) (fun x=>[(8000,fW (x.2++gF x.1 p.rules.length))]) (fun x=>p.rules.length-x.1) (1,[0]) ⟨by dsimp only;omega,by dsimp only;omega,CL.one⟩ ?_;conv=>whnf
  refine⟨?_,?_⟩
  ·rw[show([0]:List Int)++gF 1 p.rules.length=gF 0 p.rules.length by rw[CS (i:=0) (by omega)];rfl]
   exact sI
  rintro⟨i,L⟩ ⟨hi1,hi2,hI⟩
  dsimp only at hi1 hi2 hI⊢
  have hl:=hI.len
  conv=>whnf
  refine ae ?_ ?_<;>(intro h1;conv=>whnf)
  ·have hlt:i<p.rules.length:=by omega
   have e1:=CS hlt
   have hR:=GZ (i+1) p.rules.length
   generalize hRe:gF (i+1) p.rules.length=R at e1 hR
   have hge:∀j,j<i->0<=L.getD j 0/\L.getD j 0<p.rules.length:=fun j hj=>by
    obtain⟨r,hr,e⟩:=(hI.mem (L.getD j 0)).1 (bu _ (by omega))
    omega
   refine aJ.loopF ab ac (fun j:Nat=>j<=i/\∀x∈L.drop j,kO p i<kO p x) (fun j=>[(9, .int .i64 (j:Int))]) (fun j=>[(8000,fW (pq L R i j))]) (fun j=>j) i ⟨Nat.le_refl _,fun x hx=>by rw[List.drop_of_length_le (by omega)] at hx;cases hx⟩ ?_;conv=>whnf
   refine⟨?_,?_⟩
   ·rw[e1,<-hl,<-GB]
    exact sI
   rintro j ⟨hj,ha⟩
   have hlen:=GA (L:=L) (R:=R) (i:=(i:Int)) (j:=j) (by omega)
   conv=>whnf
   refine dI ?_
   conv=>whnf
   refine ae ?_ ?_<;>(intro h2;conv=>whnf)
   ·have hj0:0<j:=by omega
    obtain⟨m,rfl⟩:∃m,j=m+1:=⟨j-1,by omega⟩
    have ga:=JP (L:=L) (R:=R) (i:=(i:Int)) (j:=m+1) (by omega)
    have gb:=Bm (L:=L) (R:=R) (i:=(i:Int)) (j:=m) (by omega)
    have gs:=Et (L:=L) (R:=R) (i:=(i:Int)) (j:=m) (by omega)
    have hm:=hge m (by omega)
    refine nI ?_
    rw[tN]
    conv=>whnf
    refine aI ?_
    conv=>whnf
    refine nI ?_
    rw[show(((m+1:Nat):Int)-1).toNat=m by omega]
    conv=>whnf
    rw[ga,gb]
    (refine oC (Bx p q (i:Int) (L.getD m 0) (by omega) hm) ?_;conv=>whnf)
    refine ae ?_ ?_<;>(intro h3;conv=>whnf)
    ·have hlt3:kO p (i:Int)<kO p (L.getD m 0):=by
      unfold wX at h3
      split at h3
      ·assumption
      ·split at h3<;>omega
     refine dI ?_
     conv=>whnf
     repeat' ((first|refine nI ?_|refine aI ?_|refine tI ?_|refine fI ?_|fail);conv=>whnf)
     rw[tN,show(((m+1:Nat):Int)-1).toNat=m by omega]
     refine ak ((pq L R (i:Int) (m+1)).getD m 0) rfl ?_
     conv=>whnf
     repeat' ((first|refine nI ?_|refine aI ?_|refine tI ?_|refine fI ?_|fail);conv=>whnf)
     refine ak ((pq L R (i:Int) (m+1)).getD (m+1) 0) rfl ?_
     conv=>whnf
     repeat' ((first|refine nI ?_|refine aI ?_|refine tI ?_|refine fI ?_|fail);conv=>whnf)
     refine⟨m,?_,⟨by omega,fun x hx=>?_⟩,by dsimp only;omega⟩
     ·dsimp only
      rw[ga,gb,show(((m+1:Nat):Int)-1).toNat=m by omega,gs]
      exact sI
     ·rw[List.drop_eq_getElem_cons (by omega),List.mem_cons] at hx
      rcases hx with rfl|hx
      ·rw[<-ap 0 (by omega)];exact hlt3
      ·exact ha x hx
    ·have hge3:¬kO p (i:Int)<kO p (L.getD m 0):=by
      unfold wX at h3
      split at h3
      ·omega
      ·assumption
     repeat' ((first|refine nI ?_|refine aI ?_|refine tI ?_|refine fI ?_|fail);conv=>whnf)
     refine⟨(i+1,L.take (m+1)++[(i:Int)]++L.drop (m+1)),?_,⟨by dsimp only;omega,by dsimp only;omega,hI.next hj ha (.inr (by rw[Nat.add_sub_cancel];omega))⟩,by dsimp only;omega⟩
     dsimp only
     rw[hRe]
     exact sI
   ·obtain rfl:j=0:=by omega
    repeat' ((first|refine nI ?_|refine aI ?_|refine tI ?_|refine fI ?_|fail);conv=>whnf)
    refine⟨(i+1,L.take 0++[(i:Int)]++L.drop 0),?_,⟨by dsimp only;omega,by dsimp only;omega,hI.next hj ha (.inl rfl)⟩,by dsimp only;omega⟩
    dsimp only
    rw[hRe]
    exact sI
  ·obtain rfl:i=p.rules.length:=by omega
   rw[GY,List.append_nil]
   exact⟨rfl,L,hI,(aa)⟩
 ·rintro u M ⟨rfl,L,hI,hM⟩
  exact⟨_, .tup [],rfl,hM,trivial,rfl,L,hI,rfl⟩
def QF (p:av):AV->ag->Prop:=fun u M=>u= .tup []/\∃L,CL (kO p) p.rules.length L/\M=ag.ofL [(8000,fW L)]
theorem JY (p:av) (q:aP) (hn:p.rules.length<=8):aj Tryz.prog 251 [.row 8000 p.rules.length 1, .int .i64 (p.rules.length:Int),PP p q] (ag.ofL [(8000,fW (gF 0 p.rules.length))]) (QF p):=by
 refine aj.norm 400 (R:=fun u M=>u= .tup []/\∃L,CL (kO p) p.rules.length L/\bG (lV [(8000,fW L)]) 400 M [(8000,fW L)]) ?_ ?_
 ·refine aj.intro ab ac [(8000,fW (gF 0 p.rules.length))] Tryz.func251 rfl (by decide) ?_
  conv=>whnf
  refine aJ.loopF ab ac (fun _:Unit=>True) (fun _=>[(7, .int .i64 0),(8, .int .i64 20)]) (fun _=>[(8000,fW (gF 0 p.rules.length))]) (fun _=>0) () trivial ?_;conv=>whnf
  refine⟨sI,?_⟩
  rintro _ _
  conv=>whnf
  refine fI ?_
  conv=>whnf
  refine aj.call [(8000, .old 8000)] [(8000,fW (gF 0 p.rules.length))] 400 rfl (aa) (aa) (G0 p q hn) ?_
  rintro u M' ⟨rfl,L,hI,rfl⟩
  refine⟨[(8000, .old 8000)],[(8000,fW L)], .tup [],rfl,(aa),trivial,?_⟩
  conv=>whnf
  refine aJ.loopF ab ac (fun _:Unit=>True) (fun _=>[(6, .int .i64 20)]) (fun _=>[(8000,fW L)]) (fun _=>0) () trivial ?_;conv=>whnf
  refine⟨sI,?_⟩
  rintro _ _
  conv=>whnf
  refine fI ?_
  conv=>whnf
  exact⟨rfl,L,hI,(aa)⟩
 ·rintro u M ⟨rfl,L,hI,hM⟩
  exact⟨_, .tup [],rfl,hM,trivial,rfl,L,hI,rfl⟩
theorem zp (p:av) (q:aP) (hn:p.rules.length<=8):aj Tryz.prog 179 [.row 8000 p.rules.length 1,PP p q] (ag.ofL [(8000,fW (gF 0 p.rules.length))]) (QF p):=by
 refine aj.norm 400 (R:=fun u M=>u= .tup []/\∃L,CL (kO p) p.rules.length L/\bG (lV [(8000,fW L)]) 400 M [(8000,fW L)]) ?_ ?_
 ·refine aj.intro ab ac [(8000,fW (gF 0 p.rules.length))] Tryz.func179 rfl (by decide) ?_
  conv=>whnf
  refine aj.call [(8000, .old 8000)] [(8000,fW (gF 0 p.rules.length))] 400 rfl (aa) (aa) (JY p q hn) ?_
  rintro u M' ⟨rfl,L,hI,rfl⟩
  refine⟨[(8000, .old 8000)],[(8000,fW L)], .tup [],rfl,(aa),trivial,?_⟩
  conv=>whnf
  exact⟨rfl,L,hI,(aa)⟩
 ·rintro u M ⟨rfl,L,hI,hM⟩
  exact⟨_, .tup [],rfl,hM,trivial,rfl,L,hI,rfl⟩
def uR (k n:Nat):List Int:=((List.range k).map fun r:Nat=>(r:Int))++List.replicate (n-k) 0
theorem ED (n:Nat):uR 0 n=List.replicate n 0:=by simp[uR]
theorem G1 (n:Nat):uR n n=gF 0 n:=by simp[uR,gF]
theorem G2 {k n:Nat} (h:k<=n):(uR k n).length=n:=by simp[uR];omega
theorem JZ {k n:Nat} (h:k<n):(uR k n).set k (k:Int)=uR (k+1) n:=by
 unfold uR
 rw[List.set_append_right _ _ (by simp),List.length_map,List.length_range,Nat.sub_self,show n-k=(n-(k+1))+1 by omega,List.replicate_succ,List.set_cons_zero,List.range_succ,List.map_append,List.append_assoc]
 rfl
theorem J0 {p:av} (hv:aX p=0) (r:Nat) (hr:r<p.rules.length):0<=kO p (r:Int)/\kO p (r:Int)<p.states.length:=by
 rw[Mn]
 obtain⟨_,_,_,h4,_,_⟩:=jz ((aN hv).rul r hr)
 exact h4
theorem Mo (p:av) (q:aP) (hv:aX p=0):ah Tryz.prog 91 [.pd (fE p q)] (fun u=>u= .sl 0 al (L3 p.rules p.states.length)):=by
 have hn:=(aN hv).len
 refine ah.intro ab ac Tryz.func91 rfl (by decide) ?_;(conv=>whnf)
 refine au rfl ?_
 conv=>whnf
 refine x7 0 al 0 rfl (by dsimp only;omega) ?_
 rw[tN]
 conv=>whnf
 refine aJ.loopF ab ac (fun k:Nat=>k<=p.rules.length) (fun k=>[(14, .int .i64 (k:Int))]) (fun k=>[(11,fW (uR k p.rules.length))]) (fun k=>p.rules.length-k) 0 (Nat.zero_le _) ?_;conv=>whnf
 refine⟨by rw[ED];exact sI,?_⟩
 rintro k hk
 have hl:=G2 hk
 conv=>whnf
 refine ae ?_ ?_<;>(intro h1;conv=>whnf)
 ·have hup:=JZ (show k<p.rules.length by omega)
  repeat' ((first|refine nI ?_|refine aI ?_|refine tI ?_|refine fI ?_|fail);conv=>whnf)
  rw[tN]
  refine ak (k:Int) rfl ?_
  conv=>whnf
  repeat' ((first|refine nI ?_|refine aI ?_|refine tI ?_|refine fI ?_|fail);conv=>whnf)
  refine⟨k+1,?_,by omega,by dsimp only;omega⟩
  dsimp only
  rw[<-hup]
  exact sI
 ·obtain rfl:k=p.rules.length:=by omega
  rw[G1]
  refine aj.call [(8000, .old 11)] [(8000,fW (gF 0 p.rules.length))] 400 rfl (aa) (aa) (zp p q (by omega)) ?_
  rintro u M' ⟨rfl,L,hI,rfl⟩
  refine⟨[(11, .old 8000)],[(11,fW L)], .tup [],rfl,(aa),trivial,?_⟩
  rw[hI.ext (ns:=p.states.length) (J0 hv)]
  conv=>whnf
  exact⟨rfl,rfl⟩
def Mp (p:av) (q:aP):AV:=if dq p q≠0 then .tup [.nilsl, .int .i64 (dq p q)] else .tup [.sl 0 al (L3 p.rules p.states.length), .int .i64 0]
theorem Mq (p:av) (q:aP) (hp:lO p) (hq:rS q):ah Tryz.prog 48 [.agg (cV p), .agg (eO q)] (fun u=>u=Mp p q):=by
 have he:=Mp.eq_1 p q
 refine ah.intro ab ac Tryz.func48 rfl (by decide) ?_;(conv=>whnf)
 refine au rfl ?_
 conv=>whnf
 refine au rfl ?_
 conv=>whnf
 refine aj.of_pure (n:=5) (tS p q hp hq) (by rfl) ?_
 rintro _ rfl
 by_cases h:dq p q=0
 ·rw[if_neg (by omega)] at he
  rw[ja h]
  conv=>whnf
  refine fI ?_
  conv=>whnf
  (refine oP (Mo p q (aW (du h)).vld) ?_;conv=>whnf)
  exact⟨he.symm,rfl⟩
 ·rw[if_pos h] at he
  rw[gz rfl h]
  conv=>whnf
  refine cO h ?_
  conv=>whnf
  exact⟨he.symm,rfl⟩
theorem J1 (p:av) (q:aP) (hv:aX p=0) (number:Nat) (hn:number<=1000000):ah Tryz.prog 55 [.agg (cV p), .agg (eO q), .int .i64 (number:Int)] (fun u=>u=if q.kind=1 then .nilsl else .sl 0 al (rk p number)):=by
 have hl:=(aN hv).len
 refine ah.intro ab ac Tryz.func55 rfl (by decide) ?_;(conv=>whnf)
 refine au rfl ?_
 conv=>whnf
 refine au rfl ?_
 conv=>whnf
 refine ae ?_ ?_<;>(intro hk;conv=>whnf)
 ·exact⟨by rw[if_pos hk];rfl,rfl⟩
 rw[if_neg hk]
 refine x7 0 al 0 rfl (by dsimp only;omega) ?_
 rw[tN]
 conv=>whnf
 refine aI ?_
 conv=>whnf
 have hch:∀m,uO p.rules number m<=number:=by
  intro m
  induction m with
  |zero=>exact Nat.le_refl _
  |succ m ih=>rw[uO];exact Nat.le_trans (Nat.div_le_self _ _) ih
 refine aJ.loopF ab ac (fun m:Nat=>m<=p.rules.length) (fun m=>[(8, .int .i64 ((p.rules.length:Int)-1-(m:Int))),(2, .int .i64 (uO p.rules number m:Int))]) (fun m=>[(16,fW (GU p number m))]) (fun m=>p.rules.length-m) 0 (Nat.zero_le _) ?_;conv=>whnf
 refine⟨by rw[zn];exact sI,?_⟩
 rintro m hm
 conv=>whnf
 refine ae ?_ ?_<;>(intro h1;conv=>whnf)
 ·have hlt:m<p.rules.length:=by omega
  have ei:((p.rules.length:Int)-1-(m:Int)).toNat=p.rules.length-1-m:=by omega
  refine nI ?_
  rw[ei]
  conv=>whnf
  have hg:=ew hv (p.rules.length-1-m) (by omega)
  have hc:=hch m
  have hup:=GV p (number:=number) hlt
  have ed:Bi p.rules number (p.rules.length-1-m)=uO p.rules number m % (1+(p.rules.getD (p.rules.length-1-m) ax).guards.length):=by unfold Bi;rw[show p.rules.length-1-(p.rules.length-1-m)=m by omega]
  have eq:uO p.rules number (m+1)=uO p.rules number m / (1+(p.rules.getD (p.rules.length-1-m) ax).guards.length):=rfl
  have hlen:=CP p (number:=number) (m:=m) (by omega)
  generalize (p.rules.getD (p.rules.length-1-m) ax).guards.length=g at hg ed eq
  have e1g:(1+(g:Int))=((1+g:Nat):Int):=by push_cast;rfl
  have et:((uO p.rules number m:Nat):Int).tdiv (1+(g:Int))=((uO p.rules number (m+1):Nat):Int):=by rw[e1g,eq,Int.ofNat_tdiv]
  have er:((uO p.rules number m:Nat):Int).tmod (1+(g:Int))=((Bi p.rules number (p.rules.length-1-m):Nat):Int):=by rw[e1g,ed,Int.ofNat_tmod]
  have hc1:=hch (m+1)
  repeat' ((first|refine nI ?_|refine aI ?_|refine tI ?_|refine fI ?_|fail);conv=>whnf)
  rw[er,ei]
  refine ak ((Bi p.rules number (p.rules.length-1-m):Nat):Int) rfl ?_
  conv=>whnf
  repeat' ((first|refine nI ?_|refine aI ?_|refine tI ?_|refine fI ?_|fail);conv=>whnf)
  rw[et]
  refine nK (by omega) (by omega) ?_
  conv=>whnf
  repeat' ((first|refine nI ?_|refine aI ?_|refine tI ?_|refine fI ?_|fail);conv=>whnf)
  refine⟨m+1,?_,by omega,by dsimp only;omega⟩
  dsimp only
  rw[<-hup]
  exact sI
 ·obtain rfl:m=p.rules.length:=by omega
  rw[CO]
  exact⟨rfl,rfl⟩
theorem vW (p:av) (hp:lO p) (hv:aX p=0) (sch:List Int) (hs:dS (ay p.rules).length sch) (j:Nat) (x:cf) (hx:x.guards.length<=2) (hj:j<=sch.length):ah Tryz.prog 118 [.agg (cV p), .sl 0 al sch, .int .i64 (j:Int), .agg (iL x)] (fun u=>u= .bool (decide (En (ay p.rules) sch j x))):=by
 have hT:=(aN hv).thr
 have hsl:=cu hs
 refine ah.intro ab ac Tryz.func118 rfl (by decide) ?_;(conv=>whnf)
 refine au rfl ?_
 conv=>whnf
 refine au rfl ?_
 conv=>whnf
 (refine oP (im p hp hv) ?_;conv=>whnf)
 refine aJ.loopF ab ac (fun k:Nat=>k<=x.guards.length/\∀i,i<k->∃m,m<j/\(ay p.rules).getD (sch.getD m 0).toNat aM=x.guards.getD i aM) (fun k=>[(11, .int .i64 (k:Int))]) (fun _=>[]) (fun k=>x.guards.length-k) 0 ⟨by omega,fun i hi=>by omega⟩ ?_;conv=>whnf
 refine⟨sI,?_⟩
 rintro k ⟨hk,ha⟩
 conv=>whnf
 refine ae ?_ ?_<;>(intro h1;conv=>whnf)
 ·have hlt:k<x.guards.length:=by omega
  refine aJ.loopF ab ac (fun y:Nat×Bool=>y.1<=j/\(y.2=true↔∃m,m<y.1/\(ay p.rules).getD (sch.getD m 0).toNat aM=x.guards.getD k aM)) (fun y=>[(13, .int .i64 (y.1:Int)),(12, .bool y.2)]) (fun _=>[]) (fun y=>j-y.1) (0,false) ⟨Nat.zero_le _,fun e=>(by cases e),fun⟨m,h,_⟩=>(by omega)⟩ ?_;conv=>whnf
  refine⟨sI,?_⟩
  rintro⟨i,b⟩ ⟨hi,hb⟩
  dsimp only at hi hb⊢
  conv=>whnf
  refine ae ?_ ?_<;>(intro h2;conv=>whnf)
  ·have hil:i<j:=by omega
   have hsi:=(hs i (by omega)).1
   cases b with
   |true=>
    conv=>whnf
    refine dI ?_
    conv=>whnf
    repeat' ((first|refine nI ?_|refine aI ?_|refine tI ?_|refine fI ?_|fail);conv=>whnf)
    refine⟨(i+1,true),sI,⟨by dsimp only;omega,fun _=>?_,fun _=>rfl⟩,by dsimp only;omega⟩
    obtain⟨m,h3,h4⟩:=hb.1 rfl
    exact⟨m,by dsimp only;omega,h4⟩
   |false=>
    have hno:¬∃m,m<i/\(ay p.rules).getD (sch.getD m 0).toNat aM=x.guards.getD k aM:=fun h=>by have:=hb.2 h;cases this
    conv=>whnf
    refine dI ?_
    conv=>whnf
    refine nI ?_
    rw[tN]
    conv=>whnf
    refine nI ?_
    conv=>whnf
    refine nI ?_
    rw[tN]
    conv=>whnf
    refine ae ?_ ?_<;>(intro h3;conv=>whnf)
    ·repeat' ((first|refine nI ?_|refine aI ?_|refine tI ?_|refine fI ?_|fail);conv=>whnf)
     have h3:(ay p.rules).getD (sch.getD i 0).toNat aM=x.guards.getD k aM:=jx.1 h3
     exact⟨(i+1,true),sI,⟨by dsimp only;omega,fun _=>⟨i,by dsimp only;omega,h3⟩,fun _=>rfl⟩,by dsimp only;omega⟩
    ·repeat' ((first|refine nI ?_|refine aI ?_|refine tI ?_|refine fI ?_|fail);conv=>whnf)
     refine⟨(i+1,false),sI,⟨by dsimp only;omega,fun e=>(by cases e),fun⟨m,h4,h5⟩=>?_⟩,by dsimp only;omega⟩
     dsimp only at h4
     by_cases e:m=i
     ·subst e;exact absurd (jx.2 h5) h3
     ·exact absurd ⟨m,by omega,h5⟩ hno
  ·obtain rfl:i=j:=by omega
   cases b with
   |true=>
    conv=>whnf
    repeat' ((first|refine nI ?_|refine aI ?_|refine tI ?_|refine fI ?_|fail);conv=>whnf)
    refine⟨k+1,sI,⟨by omega,fun a hak=>?_⟩,by dsimp only;omega⟩
    by_cases e:a=k
    ·subst e;exact hb.1 rfl
    ·exact ha a (by omega)
   |false=>
    conv=>whnf
    refine⟨aA (fun h=>?_),rfl⟩
    have:=hb.2 (h _ (bu (l:=x.guards) aM hlt))
    cases this
 ·refine⟨bE (fun g hg=>?_),rfl⟩
  obtain⟨i,hi,e⟩:=List.getElem_of_mem hg
  have:=ha i (by omega)
  rwa [ap aM hi,e] at this
def vX (l:List Vb):bf:=.row 91 d8 fM l
theorem Bz (p:av) (q:aP) (hp:lO p) (hq:rS q) (hv:bD p q=0) (sch:List Int) (hs:dS (ay p.rules).length sch):ah Tryz.prog 51 [.agg (cV p), .agg (eO q), .sl 0 al sch] (fun u=>u= .sl d8 fM (az p q sch)):=by
 have w:=aN (aW hv).vld
 have hle:=w.len
 have hT:=w.thr
 have hsl:=cu hs
 have hst:(dJ p q).length<=6:=by
  have a:=bN (aW hv).start
  have b:=bN w.ini.1
  unfold dJ;split<;>omega
 have hil:p.initial.length<=6:=by have b:=bN w.ini.1;omega
 refine ah.intro ab ac Tryz.func51 rfl (by decide) ?_;(conv=>whnf)
 refine au rfl ?_
 conv=>whnf
 refine au rfl ?_
 conv=>whnf
 refine bp d8 fM [⟨0,0,0⟩,⟨1,0,0⟩,⟨2,0,0⟩] rfl ?_
 conv=>whnf
 (refine oP (EC p q hp hq hv) ?_;conv=>whnf)
 refine aJ.loopF ab ac (fun k:Nat=>k<=(dJ p q).length) (fun k=>[(17, .top),(10, .int .i64 (k:Int)),(7, .row 1000 (Bs p q k).length 3)]) (fun k=>[(1000,vX (Bs p q k))]) (fun k=>(dJ p q).length-k) 0 (Nat.zero_le _) ?_;conv=>whnf
 refine⟨aH.by_ [(1000, .old 17)] _ 400 rfl (aa) (aa),?_⟩
 rintro k hk
 conv=>whnf
 refine ae ?_ ?_<;>(intro h1;conv=>whnf)
 ·have hlt:k<(dJ p q).length:=by omega
  have hal:=r4 hv k
  refine nI ?_
  rw[tN]
  conv=>whnf
  refine bp d8 fM [⟨3,0,(dJ p q).getD k 0⟩] rfl ?_
  conv=>whnf
  refine bq [⟨3,0,(dJ p q).getD k 0⟩] rfl lI ?_
  conv=>whnf
  repeat' ((first|refine nI ?_|refine aI ?_|refine tI ?_|refine fI ?_|fail);conv=>whnf)
  refine⟨k+1,?_,by omega,by dsimp only;omega⟩
  dsimp only
  rw[GW p q hlt]
  exact aH.by_ [(1000, .old 37)] _ 400 rfl (aa) (aa)
 obtain rfl:k=(dJ p q).length:=by omega
 refine aJ.loopF ab ac (fun k:Nat=>k<=p.initial.length/\(k≠0->jZ p)) (fun k=>[(11, .int .i64 (k:Int)),(7, .row 1000 (xh p q k).length 3)]) (fun k=>[(1000,vX (xh p q k))]) (fun k=>p.initial.length-k) 0 ⟨Nat.zero_le _,fun h=>absurd rfl h⟩ ?_;conv=>whnf
 refine⟨by rw[show xh p q 0=Bs p q (dJ p q).length by unfold xh;simp];exact sI,?_⟩
 rintro k ⟨hk2,hkw⟩
 conv=>whnf
 refine ae ?_ ?_<;>(intro h3;conv=>whnf)
 ·have hlt:k<p.initial.length:=by omega
  have hbl:=xj hv k
  refine dC (fu p) (fun _=>?_) (fun _=>?_)<;>(conv=>whnf)
  ·rename_i hw
   refine nI ?_
   rw[tN]
   conv=>whnf
   refine bp d8 fM [⟨4,0,p.initial.getD k 0⟩] rfl ?_
   conv=>whnf
   refine bq [⟨4,0,p.initial.getD k 0⟩] rfl lI ?_
   conv=>whnf
   repeat' ((first|refine nI ?_|refine aI ?_|refine tI ?_|refine fI ?_|fail);conv=>whnf)
   refine⟨k+1,?_,⟨by omega,fun _=>hw⟩,by dsimp only;omega⟩
   dsimp only
   rw[GX p q hlt]
   exact aH.by_ [(1000, .old 57)] _ 400 rfl (aa) (aa)
  ·rename_i hw
   obtain rfl:k=0:=Classical.byContradiction fun h=>hw (hkw h)
   have hC:gC p q sch 0=xh p q 0:=by unfold gC JX;rw[if_neg hw];unfold xh;simp
   refine aJ.loopF ab ac (fun j:Nat=>j<=sch.length+1) (fun j=>[(12, .int .i64 (j:Int)),(7, .row 1000 (gC p q sch j).length 3)]) (fun j=>[(1000,vX (gC p q sch j))]) (fun j=>sch.length+1-j) 0 (Nat.zero_le _) ?_;conv=>whnf
   refine⟨by rw[hC];exact sI,?_⟩
   rintro j hj
   conv=>whnf
   refine ae ?_ ?_<;>(intro h1;conv=>whnf)
   ·have hDl:=r5 hv hs j hj
    refine aJ.loopF ab ac (fun r:Nat=>r<=p.rules.length) (fun r=>[(13, .int .i64 (r:Int)),(7, .row 1000 (gC p q sch j++cB p sch j r).length 3)]) (fun r=>[(1000,vX (gC p q sch j++cB p sch j r))]) (fun r=>p.rules.length-r) 0 (Nat.zero_le _) ?_;conv=>whnf
    refine⟨by rw[nm];exact sI,?_⟩
    rintro r hr
    conv=>whnf
    refine ae ?_ ?_<;>(intro h2;conv=>whnf)
    ·have hrl:r<p.rules.length:=by omega
     have hsl:=kA p sch j r
     have hll:(gC p q sch j++cB p sch j r).length<=1000:=by rw[List.length_append];omega
     refine dI ?_
     conv=>whnf
     refine nI ?_
     rw[tN]
     conv=>whnf
     refine dD (vW p hp (aW hv).vld sch hs j (p.rules.getD r ax) (ew (aW hv).vld r hrl) (by omega)) (fun _=>?_) (fun _=>?_)<;>(conv=>whnf)
     ·rename_i ha
      refine bp d8 fM [⟨5,j,r⟩] rfl ?_
      conv=>whnf
      refine bq [⟨5,j,r⟩] rfl lI ?_
      conv=>whnf
      refine dC (fu p) (fun _=>?_) (fun _=>?_)<;>(conv=>whnf)
      ·rename_i hw
       have e:gC p q sch j++cB p sch j (r+1)=gC p q sch j++cB p sch j r++[⟨5,j,r⟩]++[⟨6,j,r⟩]:=by
        rw[eK,uD,if_pos ha,if_pos hw,List.append_assoc,List.append_assoc];rfl
       refine bp d8 fM [⟨6,j,r⟩] rfl ?_
       conv=>whnf
       refine bq [⟨6,j,r⟩] rfl (by simp only[List.length_append,List.length_cons,List.length_nil] at hll⊢;omega) ?_
       conv=>whnf
       repeat' ((first|refine nI ?_|refine aI ?_|refine tI ?_|refine fI ?_|fail);conv=>whnf)
       refine⟨r+1,?_,by omega,by dsimp only;omega⟩
       dsimp only
       rw[e]
       exact aH.by_ [(1000, .old 94)] _ 400 rfl (aa) (aa)
      ·rename_i hw
       have e:gC p q sch j++cB p sch j (r+1)=gC p q sch j++cB p sch j r++[⟨5,j,r⟩]:=by
        rw[eK,uD,if_pos ha,if_neg hw,List.append_assoc]
       repeat' ((first|refine nI ?_|refine aI ?_|refine tI ?_|refine fI ?_|fail);conv=>whnf)
       refine⟨r+1,?_,by omega,by dsimp only;omega⟩
       dsimp only
       rw[e]
       exact aH.by_ [(1000, .old 86)] _ 400 rfl (aa) (aa)
     ·rename_i ha
      have e:gC p q sch j++cB p sch j (r+1)=gC p q sch j++cB p sch j r:=by
       rw[eK,uD,if_neg ha,List.append_nil]
      repeat' ((first|refine nI ?_|refine aI ?_|refine tI ?_|refine fI ?_|fail);conv=>whnf)
      refine⟨r+1,?_,by omega,by dsimp only;omega⟩
      dsimp only
      rw[e]
      exact sI
    ·obtain rfl:r=p.rules.length:=by omega
     have e:=xi p q sch j
     repeat' ((first|refine nI ?_|refine aI ?_|refine tI ?_|refine fI ?_|fail);conv=>whnf)
     refine⟨j+1,?_,by omega,by dsimp only;omega⟩
     dsimp only
     rw[e]
     exact sI
   ·obtain rfl:j=sch.length+1:=by omega
    rw[r3]
    exact⟨rfl,rfl⟩
 ·obtain rfl:k=p.initial.length:=by omega
  have hini:=w.ini.2.1
  have hw:=hkw (by omega)
  have hC:gC p q sch 0=xh p q p.initial.length:=by unfold gC JX;rw[if_pos hw];simp
  refine aJ.loopF ab ac (fun j:Nat=>j<=sch.length+1) (fun j=>[(12, .int .i64 (j:Int)),(7, .row 1000 (gC p q sch j).length 3)]) (fun j=>[(1000,vX (gC p q sch j))]) (fun j=>sch.length+1-j) 0 (Nat.zero_le _) ?_;conv=>whnf
  refine⟨by rw[hC];exact sI,?_⟩
  rintro j hj
  conv=>whnf
  refine ae ?_ ?_<;>(intro h1;conv=>whnf)
  ·have hDl:=r5 hv hs j hj
   refine aJ.loopF ab ac (fun r:Nat=>r<=p.rules.length) (fun r=>[(13, .int .i64 (r:Int)),(7, .row 1000 (gC p q sch j++cB p sch j r).length 3)]) (fun r=>[(1000,vX (gC p q sch j++cB p sch j r))]) (fun r=>p.rules.length-r) 0 (Nat.zero_le _) ?_;conv=>whnf
   refine⟨by rw[nm];exact sI,?_⟩
   rintro r hr
   conv=>whnf
   refine ae ?_ ?_<;>(intro h2;conv=>whnf)
   ·have hrl:r<p.rules.length:=by omega
    have hsl:=kA p sch j r
    have hll:(gC p q sch j++cB p sch j r).length<=1000:=by rw[List.length_append];omega
    refine dI ?_
    conv=>whnf
    refine nI ?_
    rw[tN]
    conv=>whnf
    refine dD (vW p hp (aW hv).vld sch hs j (p.rules.getD r ax) (ew (aW hv).vld r hrl) (by omega)) (fun _=>?_) (fun _=>?_)<;>(conv=>whnf)
    ·rename_i ha
     refine bp d8 fM [⟨5,j,r⟩] rfl ?_
     conv=>whnf
     refine bq [⟨5,j,r⟩] rfl lI ?_
     conv=>whnf
     refine dC (fu p) (fun _=>?_) (fun _=>?_)<;>(conv=>whnf)
     ·rename_i hw
      have e:gC p q sch j++cB p sch j (r+1)=gC p q sch j++cB p sch j r++[⟨5,j,r⟩]++[⟨6,j,r⟩]:=by
       rw[eK,uD,if_pos ha,if_pos hw,List.append_assoc,List.append_assoc];rfl
      refine bp d8 fM [⟨6,j,r⟩] rfl ?_
      conv=>whnf
      refine bq [⟨6,j,r⟩] rfl (by simp only[List.length_append,List.length_cons,List.length_nil] at hll⊢;omega) ?_
      conv=>whnf
      repeat' ((first|refine nI ?_|refine aI ?_|refine tI ?_|refine fI ?_|fail);conv=>whnf)
      refine⟨r+1,?_,by omega,by dsimp only;omega⟩
      dsimp only
      rw[e]
      exact aH.by_ [(1000, .old 94)] _ 400 rfl (aa) (aa)
     ·rename_i hw
      have e:gC p q sch j++cB p sch j (r+1)=gC p q sch j++cB p sch j r++[⟨5,j,r⟩]:=by
       rw[eK,uD,if_pos ha,if_neg hw,List.append_assoc]
      repeat' ((first|refine nI ?_|refine aI ?_|refine tI ?_|refine fI ?_|fail);conv=>whnf)
      refine⟨r+1,?_,by omega,by dsimp only;omega⟩
      dsimp only
      rw[e]
      exact aH.by_ [(1000, .old 86)] _ 400 rfl (aa) (aa)
    ·rename_i ha
     have e:gC p q sch j++cB p sch j (r+1)=gC p q sch j++cB p sch j r:=by
      rw[eK,uD,if_neg ha,List.append_nil]
     repeat' ((first|refine nI ?_|refine aI ?_|refine tI ?_|refine fI ?_|fail);conv=>whnf)
     refine⟨r+1,?_,by omega,by dsimp only;omega⟩
     dsimp only
     rw[e]
     exact sI
   ·obtain rfl:r=p.rules.length:=by omega
    have e:=xi p q sch j
    repeat' ((first|refine nI ?_|refine aI ?_|refine tI ?_|refine fI ?_|fail);conv=>whnf)
    refine⟨j+1,?_,by omega,by dsimp only;omega⟩
    dsimp only
    rw[e]
    exact sI
  ·obtain rfl:j=sch.length+1:=by omega
   rw[r3]
   exact⟨rfl,rfl⟩
end Go.Proofs.YtekmminpfhacpaaGreatDoor
