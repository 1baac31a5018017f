import Derived.Test.YtekmminpfhacpaaGreatDoorV1
import Derived.Test.YtekmminpfhacpaaGreatDoorFtE
set_option linter.unusedVariables false
set_option linter.unusedSimpArgs false
namespace Go.Proofs.YtekmminpfhacpaaGreatDoor
set_option maxRecDepth 100000
set_option maxHeartbeats 16000000
def kO (p:ap) (a:Int):Int:=(p.rules.getD a.toNat au).src
theorem xi (p:ap) (r:Nat):kO p (r:Int)=(p.rules.getD r au).src:=by unfold kO;rw[tN]
theorem BC (p:ap) (q:aJ) (a b:Int) (ha:0<=a/\a<p.rules.length) (hb:0<=b/\b<p.rules.length):ab Tryz.prog 180 [.int .i64 a, .int .i64 b, .pd [.pd (fi p q)]] (fun u=>u= .int .i64 (wK (kO p a) (kO p b))):=by
 refine ab.intro ae ag Tryz.func180 rfl (by decide) ?_;(conv=>whnf)
 refine dI ?_
 conv=>whnf
 refine nI ?_
 conv=>whnf
 refine nI ?_
 conv=>whnf
 (refine oC (AZ _ _) ?_;conv=>whnf)
 exact⟨rfl,rfl⟩
def gi (i n:Nat):List Int:=((List.range n).drop i).map fun r:Nat=>(r:Int)
theorem C1 {i n:Nat} (h:i<n):gi i n=(i:Int)::gi (i+1) n:=by
 unfold gi
 rw[List.drop_eq_getElem_cons (by simpa using h)]
 simp
theorem HA (n:Nat):gi n n=[]:=by unfold gi;rw[List.drop_of_length_le (by simp)];rfl
theorem HB (i n:Nat):(gi i n).length=n-i:=by unfold gi;simp
def RJ (p:ap) (q:aJ):AV:=.fn 180 [.pd [.pd (fi p q)]]
theorem HC (p:ap) (q:aJ) (hn:p.rules.length<=8):aj Tryz.prog 285 [.row 8000 p.rules.length 1, .int .i64 0, .int .i64 (p.rules.length:Int),RJ p q] (ac.ofL [(8000,cw (gi 0 p.rules.length))])
  (fun u M=>u= .tup []/\∃L,CQ (kO p) p.rules.length L/\M=ac.ofL [(8000,cw L)]):=by
 by_cases h0:p.rules.length=0
 ·refine aj.norm 400 (R:=fun u M=>u= .tup []/\bD (n7 [(8000,cw (gi 0 p.rules.length))]) 400 M [(8000,cw (gi 0 p.rules.length))]) ?_ ?_
  ·refine aj.intro ae ag [(8000,cw (gi 0 p.rules.length))] Tryz.func285 rfl (by decide) ?_
   conv=>whnf
   refine aI ?_
   conv=>whnf
   refine a8.loopF ae ag (fun _:Unit=>True) (fun _=>[(8, .int .i64 1)]) (fun _=>[(8000,cw (gi 0 p.rules.length))]) (fun _=>0) () trivial ?_;conv=>whnf
   refine⟨sI,?_⟩
   rintro _ _
   conv=>whnf
   refine fI ?_
   conv=>whnf
   exact⟨rfl,(aa)⟩
  ·rintro u M ⟨rfl,hM⟩
   have e:gi 0 p.rules.length=[]:=by rw[h0];rfl
   refine⟨_, .tup [],rfl,hM,trivial,rfl,gi 0 p.rules.length,⟨by rw[e,h0];rfl,by rw[e];simp,fun x=>?_⟩,rfl⟩
   rw[e,h0]
   simp
 refine aj.norm 400 (R:=fun u M=>u= .tup []/\∃L,CQ (kO p) p.rules.length L/\bD (n7 [(8000,cw L)]) 400 M [(8000,cw L)]) ?_ ?_
 ·refine aj.intro ae ag [(8000,cw (gi 0 p.rules.length))] Tryz.func285 rfl (by decide) ?_
  conv=>whnf
  refine aI ?_
  conv=>whnf
  refine a8.loopF ae ag (fun x:Nat×List Int=>1<=x.1/\x.1<=p.rules.length/\CQ (kO p) x.1 x.2) (fun x=>[(8, .int .i64 (x.1:Int))]) (fun x=>[(8000,cw (x.2++gi x.1 p.rules.length))]) (fun x=>p.rules.length-x.1) (1,[0]) ⟨by dsimp only;omega,by dsimp only;omega,CQ.one⟩ ?_;conv=>whnf
  refine⟨?_,?_⟩
  ·rw[show([0]:List Int)++gi 1 p.rules.length=gi 0 p.rules.length by rw[C1 (i:=0) (by omega)];rfl]
   exact sI
  rintro⟨i,L⟩ ⟨hi1,hi2,hI⟩
  dsimp only at hi1 hi2 hI⊢
  have hl:=hI.len
  conv=>whnf
  refine ai ?_ ?_<;>(intro h1;conv=>whnf)
  ·have hlt:i<p.rules.length:=by omega
   have e1:=C1 hlt
   have hR:=HB (i+1) p.rules.length
   generalize hRe:gi (i+1) p.rules.length=R at e1 hR
   have hge:∀j,j<i->0<=L.getD j 0/\L.getD j 0<p.rules.length:=fun j hj=>by
    obtain⟨r,hr,e⟩:=(hI.mem (L.getD j 0)).1 (aH _ (by omega))
    omega
   refine a8.loopF ae ag (fun j:Nat=>j<=i/\∀x∈L.drop j,kO p i<kO p x) (fun j=>[(9, .int .i64 (j:Int))]) (fun j=>[(8000,cw (pA L R i j))]) (fun j=>j) i ⟨Nat.le_refl _,fun x hx=>by rw[List.drop_of_length_le (by omega)] at hx;cases hx⟩ ?_;conv=>whnf
   refine⟨?_,?_⟩
   ·rw[e1,<-hl,<-Hd]
    exact sI
   rintro j ⟨hj,ha⟩
   have hlen:=Hc (L:=L) (R:=R) (i:=(i:Int)) (j:=j) (by omega)
   conv=>whnf
   refine dI ?_
   conv=>whnf
   refine ai ?_ ?_<;>(intro h2;conv=>whnf)
   ·have hj0:0<j:=by omega
    obtain⟨m,rfl⟩:∃m,j=m+1:=⟨j-1,by omega⟩
    have ga:=K5 (L:=L) (R:=R) (i:=(i:Int)) (j:=m+1) (by omega)
    have gb:=Bt (L:=L) (R:=R) (i:=(i:Int)) (j:=m) (by omega)
    have gs:=EO (L:=L) (R:=R) (i:=(i:Int)) (j:=m) (by omega)
    have hm:=hge m (by omega)
    refine nI ?_
    rw[tN]
    conv=>whnf
    refine aI ?_
    conv=>whnf
    refine nI ?_
    rw[show(((m+1:Nat):Int)-1).toNat=m by omega]
    conv=>whnf
    rw[ga,gb]
    (refine oC (BC p q (i:Int) (L.getD m 0) (by omega) hm) ?_;conv=>whnf)
    refine ai ?_ ?_<;>(intro h3;conv=>whnf)
    ·have hlt3:kO p (i:Int)<kO p (L.getD m 0):=by
      unfold wK at h3
      split at h3
      ·assumption
      ·split at h3<;>omega
     refine dI ?_
     conv=>whnf
     repeat' ((first|refine nI ?_|refine aI ?_|refine tI ?_|refine fI ?_|fail);conv=>whnf)
     rw[tN,show(((m+1:Nat):Int)-1).toNat=m by omega]
     refine an ((pA L R (i:Int) (m+1)).getD m 0) rfl ?_
     conv=>whnf
     repeat' ((first|refine nI ?_|refine aI ?_|refine tI ?_|refine fI ?_|fail);conv=>whnf)
     refine an ((pA L R (i:Int) (m+1)).getD (m+1) 0) rfl ?_
     conv=>whnf
     repeat' ((first|refine nI ?_|refine aI ?_|refine tI ?_|refine fI ?_|fail);conv=>whnf)
     refine⟨m,?_,⟨by omega,fun x hx=>?_⟩,by dsimp only;omega⟩
     ·dsimp only
      rw[ga,gb,show(((m+1:Nat):Int)-1).toNat=m by omega,gs]
      exact sI
     ·rw[List.drop_eq_getElem_cons (by omega),List.mem_cons] at hx
      rcases hx with rfl|hx
      ·rw[<-am 0 (by omega)];exact hlt3
      ·exact ha x hx
    ·have hge3:¬kO p (i:Int)<kO p (L.getD m 0):=by
      unfold wK at h3
      split at h3
      ·omega
      ·assumption
     repeat' ((first|refine nI ?_|refine aI ?_|refine tI ?_|refine fI ?_|fail);conv=>whnf)
     refine⟨(i+1,L.take (m+1)++[(i:Int)]++L.drop (m+1)),?_,⟨by dsimp only;omega,by dsimp only;omega,hI.next hj ha (.inr (by rw[Nat.add_sub_cancel];omega))⟩,by dsimp only;omega⟩
     dsimp only
     rw[hRe]
     exact sI
   ·obtain rfl:j=0:=by omega
    repeat' ((first|refine nI ?_|refine aI ?_|refine tI ?_|refine fI ?_|fail);conv=>whnf)
    refine⟨(i+1,L.take 0++[(i:Int)]++L.drop 0),?_,⟨by dsimp only;omega,by dsimp only;omega,hI.next hj ha (.inl rfl)⟩,by dsimp only;omega⟩
    dsimp only
    rw[hRe]
    exact sI
  ·obtain rfl:i=p.rules.length:=by omega
   rw[HA,List.append_nil]
   exact⟨rfl,L,hI,(aa)⟩
 ·rintro u M ⟨rfl,L,hI,hM⟩
  exact⟨_, .tup [],rfl,hM,trivial,rfl,L,hI,rfl⟩
def SD (p:ap):AV->ac->Prop:=fun u M=>u= .tup []/\∃L,CQ (kO p) p.rules.length L/\M=ac.ofL [(8000,cw L)]
theorem Lc (p:ap) (q:aJ) (hn:p.rules.length<=8):aj Tryz.prog 251 [.row 8000 p.rules.length 1, .int .i64 (p.rules.length:Int),RJ p q] (ac.ofL [(8000,cw (gi 0 p.rules.length))]) (SD p):=by
 refine aj.norm 400 (R:=fun u M=>u= .tup []/\∃L,CQ (kO p) p.rules.length L/\bD (n7 [(8000,cw L)]) 400 M [(8000,cw L)]) ?_ ?_
 ·refine aj.intro ae ag [(8000,cw (gi 0 p.rules.length))] Tryz.func251 rfl (by decide) ?_
  conv=>whnf
  refine a8.loopF ae ag (fun _:Unit=>True) (fun _=>[(7, .int .i64 0),(8, .int .i64 20)]) (fun _=>[(8000,cw (gi 0 p.rules.length))]) (fun _=>0) () trivial ?_;conv=>whnf
  refine⟨sI,?_⟩
  rintro _ _
  conv=>whnf
  refine fI ?_
  conv=>whnf
  refine aj.call [(8000, .old 8000)] [(8000,cw (gi 0 p.rules.length))] 400 rfl (aa) (aa) (HC p q hn) ?_
  rintro u M' ⟨rfl,L,hI,rfl⟩
  refine⟨[(8000, .old 8000)],[(8000,cw L)], .tup [],rfl,(aa),trivial,?_⟩
  conv=>whnf
  refine a8.loopF ae ag (fun _:Unit=>True) (fun _=>[(6, .int .i64 20)]) (fun _=>[(8000,cw L)]) (fun _=>0) () trivial ?_;conv=>whnf
  refine⟨sI,?_⟩
  rintro _ _
  conv=>whnf
  refine fI ?_
  conv=>whnf
  exact⟨rfl,L,hI,(aa)⟩
 ·rintro u M ⟨rfl,L,hI,hM⟩
  exact⟨_, .tup [],rfl,hM,trivial,rfl,L,hI,rfl⟩
theorem zj (p:ap) (q:aJ) (hn:p.rules.length<=8):aj Tryz.prog 179 [.row 8000 p.rules.length 1,RJ p q] (ac.ofL [(8000,cw (gi 0 p.rules.length))]) (SD p):=by
 refine aj.norm 400 (R:=fun u M=>u= .tup []/\∃L,CQ (kO p) p.rules.length L/\bD (n7 [(8000,cw L)]) 400 M [(8000,cw L)]) ?_ ?_
 ·refine aj.intro ae ag [(8000,cw (gi 0 p.rules.length))] Tryz.func179 rfl (by decide) ?_
  conv=>whnf
  refine aj.call [(8000, .old 8000)] [(8000,cw (gi 0 p.rules.length))] 400 rfl (aa) (aa) (Lc p q hn) ?_
  rintro u M' ⟨rfl,L,hI,rfl⟩
  refine⟨[(8000, .old 8000)],[(8000,cw L)], .tup [],rfl,(aa),trivial,?_⟩
  conv=>whnf
  exact⟨rfl,L,hI,(aa)⟩
 ·rintro u M ⟨rfl,L,hI,hM⟩
  exact⟨_, .tup [],rfl,hM,trivial,rfl,L,hI,rfl⟩
def uL (k n:Nat):List Int:=((List.range k).map fun r:Nat=>(r:Int))++List.replicate (n-k) 0
theorem EW (n:Nat):uL 0 n=List.replicate n 0:=by simp[uL]
theorem HD (n:Nat):uL n n=gi 0 n:=by simp[uL,gi]
theorem HE {k n:Nat} (h:k<=n):(uL k n).length=n:=by simp[uL];omega
theorem Ld {k n:Nat} (h:k<n):(uL k n).set k (k:Int)=uL (k+1) n:=by
 unfold uL
 rw[List.set_append_right _ _ (by simp),List.length_map,List.length_range,Nat.sub_self,show n-k=(n-(k+1))+1 by omega,List.replicate_succ,List.set_cons_zero,List.range_succ,List.map_append,List.append_assoc]
 rfl
theorem rV {p:ap} (hv:aL p=0) (r:Nat) (hr:r<p.rules.length):0<=kO p (r:Int)/\kO p (r:Int)<p.states.length:=by
 rw[xi]
 obtain⟨_,_,_,h4,_,_⟩:=jm ((a9 hv).rul r hr)
 exact h4
theorem HF (p:ap) (q:aJ) (hv:aL p=0):ab Tryz.prog 91 [.pd (fi p q)] (fun u=>u= .sl 0 ak (iR p.rules p.states.length)):=by
 have hn:=(a9 hv).len
 refine ab.intro ae ag Tryz.func91 rfl (by decide) ?_;(conv=>whnf)
 refine ar rfl ?_
 conv=>whnf
 refine Cd 0 ak 0 rfl (by dsimp only;omega) ?_
 rw[tN]
 conv=>whnf
 refine a8.loopF ae ag (fun k:Nat=>k<=p.rules.length) (fun k=>[(14, .int .i64 (k:Int))]) (fun k=>[(11,cw (uL k p.rules.length))]) (fun k=>p.rules.length-k) 0 (Nat.zero_le _) ?_;conv=>whnf
 refine⟨by rw[EW];exact sI,?_⟩
 rintro k hk
 have hl:=HE hk
 conv=>whnf
 refine ai ?_ ?_<;>(intro h1;conv=>whnf)
 ·have hup:=Ld (show k<p.rules.length by omega)
  repeat' ((first|refine nI ?_|refine aI ?_|refine tI ?_|refine fI ?_|fail);conv=>whnf)
  rw[tN]
  refine an (k:Int) rfl ?_
  conv=>whnf
  repeat' ((first|refine nI ?_|refine aI ?_|refine tI ?_|refine fI ?_|fail);conv=>whnf)
  refine⟨k+1,?_,by omega,by dsimp only;omega⟩
  dsimp only
  rw[<-hup]
  exact sI
 ·obtain rfl:k=p.rules.length:=by omega
  rw[HD]
  refine aj.call [(8000, .old 11)] [(8000,cw (gi 0 p.rules.length))] 400 rfl (aa) (aa) (zj p q (by omega)) ?_
  rintro u M' ⟨rfl,L,hI,rfl⟩
  refine⟨[(11, .old 8000)],[(11,cw L)], .tup [],rfl,(aa),trivial,?_⟩
  rw[hI.ext (ns:=p.states.length) (rV hv)]
  conv=>whnf
  exact⟨rfl,rfl⟩
def Oi (p:ap) (q:aJ):AV:=if dL p q≠0 then .tup [.nilsl, .int .i64 (dL p q)] else .tup [.sl 0 ak (iR p.rules p.states.length), .int .i64 0]
theorem Oj (p:ap) (q:aJ) (hp:qz p) (hq:Bj q):ab Tryz.prog 48 [.agg (dg p), .agg (mK q)] (fun u=>u=Oi p q):=by
 have he:=Oi.eq_1 p q
 refine ab.intro ae ag Tryz.func48 rfl (by decide) ?_;(conv=>whnf)
 refine ar rfl ?_
 conv=>whnf
 refine ar rfl ?_
 conv=>whnf
 refine aj.of_pure (n:=5) (vG p q hp hq) (by rfl) ?_
 rintro _ rfl
 by_cases h:dL p q=0
 ·rw[if_neg (by omega)] at he
  rw[jR h]
  conv=>whnf
  refine fI ?_
  conv=>whnf
  (refine oP (HF p q (bf (eM h)).vld) ?_;conv=>whnf)
  exact⟨he.symm,rfl⟩
 ·rw[if_pos h] at he
  rw[g9 rfl h]
  conv=>whnf
  refine dQ h ?_
  conv=>whnf
  exact⟨he.symm,rfl⟩
def Le (rs:List bE) (x r:Nat):List Int:=((List.range r).filter fun r=>decide ((rs.getD r au).src=(x:Int))).map fun r:Nat=>(r:Int)
def Ok (rs:List bE) (x:Nat):List Int:=(List.range x).flatMap fun x=>Le rs x rs.length
theorem HG (rs:List bE) (n:Nat):Ok rs n=iR rs n:=rfl
theorem HH (rs:List bE) (x r:Nat):(Le rs x r).length<=r:=by
 unfold Le
 have:=List.length_filter_le (fun r=>decide ((rs.getD r au).src=(x:Int))) (List.range r)
 rw[List.length_map]
 simpa using this
theorem HI (rs:List bE) (x:Nat):(Ok rs x).length<=rs.length*x:=by
 have:=pC (fun x=>Le rs x rs.length) rs.length (List.range x) fun a _=>HH rs a rs.length
 unfold Ok
 simpa using this
end Go.Proofs.YtekmminpfhacpaaGreatDoor
