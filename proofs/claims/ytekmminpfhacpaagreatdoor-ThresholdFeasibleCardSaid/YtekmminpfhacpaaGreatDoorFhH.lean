import Derived.Test.YtekmminpfhacpaaGreatDoorHB
set_option linter.unusedVariables false
set_option linter.unusedSimpArgs false
namespace Go.Proofs.YtekmminpfhacpaaGreatDoor
set_option maxRecDepth 100000
set_option maxHeartbeats 16000000
abbrev Sa:List AV:=[.int .i64 0, .int .i64 0, .int .i64 0]
noncomputable abbrev Sb (p:ap) (q:aJ) (sch:List Int) (vars:List Vb) (s:aN) (st c:aD) (xs:List bX):List (Nat×aU):=
 [(10, .box 59 Sa),(11, .box 64 (j6++[.nilsl])),(15, .box 59 (gr s)),(17, .box 61 (cy c)),(18, .box 64 (cy st++[.row 1000 xs.length 3])),(1000, .row 77 qO iA xs)]++dx p q sch vars []
theorem IB {p:ap} {q:aJ} {sch x:List Int} {number e:Int} (h:rI p q sch x number=e) (he:e≠0):zJ p q sch x number= .tup [.agg Sa, .agg (j6++[.nilsl]), .int .i64 e]:=by
 unfold zJ
 rw[h,if_pos he]
theorem IC {p:ap} {q:aJ} {sch x:List Int} {number:Int} (h:rI p q sch x number=0):zJ p q sch x number= .tup [.agg (gr (fR (j0 (ao p q sch) x))), .agg (cy (bw p q (j0 (ao p q sch) x))++[.sl qO iA (xF p q sch x).2.1]), .int .i64 0]:=by
 unfold zJ
 rw[if_neg (fun y=>y h)]
theorem O1 (p:ap) (q:aJ) (sch x:List Int) (number:Int) (h:OY p q sch x number):aj Tryz.prog 89 [.ptr 200 0, .sl 0 ak x] (ac.ofL (dx p q sch (ao p q sch) []))
   (fun u M=>u= .agg [.nilsl, .sl 0 ak (bw p q (j0 (ao p q sch) x)).states, .int .i64 (bw p q (j0 (ao p q sch) x)).correct, .sl 0 ak (bw p q (j0 (ao p q sch) x)).sent, .sl 0 ak (bw p q (j0 (ao p q sch) x)).faulty, .int .i64 0]/\M=ac.ofL (dx p q sch (ao p q sch) [])):=by
 have hln:=(a9 (bf h.prp).vld).len
 have hlen:=h.len
 have hnd:=cL h.prp sch
 have hv3:3<=(ao p q sch).length:=by unfold ao;simp only[List.length_append,List.length_cons,List.length_nil];omega
 have hvl:=kw h.prp h.scm
 have e:=Lz h.prp (sch:=sch) x
 have hw8:=eY h.rdy.wide
 have hsm:=h.rdy.sz
 have hvc:=h.rdy.vc.len
 have hmod:iy p (fR (j0 (ao p q sch) x))<=8:=by unfold iy;split<;>omega
 have hl8:(bw p q (j0 (ao p q sch) x)).states.length<=8:=by omega
 have hsiz:=h.siz
 have e2:(bw p q (j0 (ao p q sch) x)).correct=x.getD 0 0-x.getD 2 0:=by
  have a:=congrArg aN.n hsiz
  have b:=congrArg aN.f hsiz
  unfold fR at a b
  dsimp only at a b
  show j0 (ao p q sch) x ⟨0,0,0⟩-j0 (ao p q sch) x ⟨2,0,0⟩=_
  rw[a,b]
 have e3:(bw p q (j0 (ao p q sch) x)).sent=List.replicate p.messages.length 0:=rfl
 have e4:(bw p q (j0 (ao p q sch) x)).faulty=List.replicate p.messages.length 0:=rfl
 have hW:LC (ao p q sch) x p.states.length 2=pQ (ao p q sch) x 3 p.states.length++pQ (ao p q sch) x 4 p.states.length:=by
  show[]++pQ (ao p q sch) x (3+((0:Nat):Int)) p.states.length++pQ (ao p q sch) x (3+((1:Nat):Int)) p.states.length=_
  rw[List.nil_append]
  rfl
 have hT:∀y:Nat,y<2->∀z:Nat,0<=iJ (ao p q sch) x (3+(y:Int)) 0 z/\(z<p.states.length->iJ (ao p q sch) x (3+(y:Int)) 0 z<=8):=fun y hy z=>by
  have h0:0<=iJ (ao p q sch) x (3+(y:Int)) 0 z:=by
   rw[lH hnd]
   split
   ·rename_i hm
    obtain⟨j,hj,ej⟩:=List.getElem_of_mem hm
    rw[<-ej,<-am im hj,zG hnd x hj]
    exact(h.pnt j (by omega)).1
   ·exact Int.le_refl _
  refine⟨h0,fun hz=>?_⟩
  have hsub:(List.replicate (iJ (ao p q sch) x (3+(y:Int)) 0 z).toNat (z:Int)).length<=(pQ (ao p q sch) x (3+(y:Int)) p.states.length).length:=by
   unfold pQ
   obtain⟨l1,l2,el⟩:=List.append_of_mem (List.mem_range.2 hz)
   rw[el,List.flatMap_append,List.flatMap_cons]
   simp only[List.length_append]
   omega
  rw[List.length_replicate] at hsub
  have h8:(pQ (ao p q sch) x 3 p.states.length).length+(pQ (ao p q sch) x 4 p.states.length).length<=8:=by
   have:=congrArg List.length e
   rw[List.length_append] at this
   omega
  obtain rfl|rfl:y=0\/y=1:=by omega
  ·have:(pQ (ao p q sch) x (3+((0:Nat):Int)) p.states.length).length<=8:=by show(pQ (ao p q sch) x 3 p.states.length).length<=8;omega
   omega
  ·have:(pQ (ao p q sch) x (3+((1:Nat):Int)) p.states.length).length<=8:=by show(pQ (ao p q sch) x 4 p.states.length).length<=8;omega
   omega
 have hX:∀y:Nat,y<2->∀z,z<=p.states.length->(pQ (ao p q sch) x (3+(y:Int)) z).length<=8*z:=fun y hy z hz=>Dm z fun z' hz'=>(hT y hy z').2 (by omega)
 have:=O0 p q sch (ao p q sch) x (by omega) (by omega) hlen hv3 (by omega) (h.pnt 0 (by omega)) (h.pnt 2 (by omega)) (fun y hy z hz=>⟨(hT y hy z).1,(hT y hy z).2 hz⟩)
  (fun y hy=>by
   have a:=hX 0 (by omega) p.states.length (Nat.le_refl _)
   have b:=hX 1 (by omega) p.states.length (Nat.le_refl _)
   obtain rfl|rfl|rfl:y=0\/y=1\/y=2:=by omega
   ·exact Nat.zero_le _
   ·show([]++pQ (ao p q sch) x (3+((0:Nat):Int)) p.states.length).length<=_
    rw[List.nil_append];omega
   ·show([]++pQ (ao p q sch) x (3+((0:Nat):Int)) p.states.length++pQ (ao p q sch) x (3+((1:Nat):Int)) p.states.length).length<=_
    rw[List.nil_append,List.length_append];omega) hX
 rw[hW,e] at this
 rw[e2,e3,e4]
 exact this
theorem zL (p:ap) (q:aJ) (hp:qz p) (hq:Bj q) (sch:List Int) (hl:sch.length<=140737488355328) (number:Int) (x:List Int) (hx:x.length<=140737488355328):
  ab Tryz.prog 30 [.agg (dg p), .agg (mK q), .sl 0 ak sch, .int .i64 number, .sl 0 ak x] (fun u=>u=zJ p q sch x number):=by
 have he:=rI.eq_1 p q sch x number
 have fin:∀e,rI p q sch x number=e->e≠0-> .tup [.agg Sa, .agg (j6++[.nilsl]), .int .i64 e]=zJ p q sch x number:=fun e h h0=>(IB h h0).symm
 have fin0:=IC (p:=p) (q:=q) (sch:=sch) (x:=x) (number:=number)
 generalize zJ p q sch x number=A at fin fin0
 generalize rI p q sch x number=E at he fin fin0
 refine ab.intro ae ag Tryz.func30 rfl (by decide) ?_;(conv=>whnf)
 refine ar rfl ?_
 conv=>whnf
 refine ar rfl ?_
 conv=>whnf
 refine aj.of_pure (n:=5) (vG p q hp hq) (by rfl) ?_
 rintro _ rfl
 by_cases h:dL p q=0
 rotate_left
 ·rw[if_pos h] at he
  rw[g9 rfl h]
  conv=>whnf
  refine dQ h ?_
  conv=>whnf
  exact⟨fin _ he h,rfl⟩
 rw[if_neg (by omega)] at he
 rw[jR h]
 have hcs:=Hz h
 conv=>whnf
 refine fI ?_
 conv=>whnf
 refine dC (qK p q sch hl) (fun _=>?_) (fun _=>?_)<;>(conv=>whnf)
 rotate_left
 ·rename_i hs
  rw[if_pos (.inl hs)] at he
  exact⟨fin _ he (by decide),rfl⟩
 rename_i hs
 refine ai ?_ ?_<;>(intro h1;conv=>whnf)
 ·rw[if_pos (.inr (.inl h1))] at he
  exact⟨fin _ he (by decide),rfl⟩
 refine ai ?_ ?_<;>(intro h2;conv=>whnf)
 ·rw[if_pos (.inr (.inr (by omega)))] at he
  exact⟨fin _ he (by decide),rfl⟩
 rw[if_neg (fun hh=>by rcases hh with hh|hh|hh;exact hh hs;omega;omega)] at he
 have hS:=BK (jn p q sch number) x (qN (xg (eM h) hs number)) hx
 unfold ro at hS
 have eS:(jn p q sch number).vars=((ao p q sch).length:Int)/\(jn p q sch number).rows=eg p q sch number:=⟨rfl,rfl⟩
 rw[eS.1,eS.2] at hS
 (refine oP (HT p q (eM h) sch hs number (by omega)) ?_;conv=>whnf)
 refine dC (hS) (fun _=>?_) (fun _=>?_)<;>(conv=>whnf)
 rotate_left
 ·rename_i h3
  rw[if_pos h3] at he
  exact⟨fin _ he (by decide),rfl⟩
 rename_i h3
 rw[if_neg (fun y=>y h3)] at he
 have hlen:=sa h3
 have hv3:3<=(ao p q sch).length:=by unfold ao;simp only[List.length_append,List.length_cons,List.length_nil];omega
 have hpnt:=h3.2.2.1
 first|(refine dI ?_;trace "I")|(refine dR ?_;trace "R")|(refine dP ?_;trace "P")|(refine lP (by decide+kernel) ?_;trace "G")|(refine lQ (by decide+kernel) ?_;trace "O")|trace "none"
 conv=>whnf
 refine nI ?_
 conv=>whnf
 refine nI ?_
 conv=>whnf
 refine nI ?_
 conv=>whnf
 rw[show(Int.toNat 0)=0 from rfl,show(Int.toNat 1)=1 from rfl,show(Int.toNat 2)=2 from rfl]
 refine ai ?_ ?_<;>(intro h8;conv=>whnf)
 ·rw[if_pos h8] at he
  exact⟨fin _ he (by decide),rfl⟩
 rw[if_neg h8] at he
 have sol:=Iy h hs h3 h8
 have hprp:=eM h
 have hvld:=(bf hprp).vld
 have hln:=(a9 hvld).len
 have hnd:=cL hprp sch
 have hbeg:=Qx p q sch hprp hs fun n hn=>vN (aH (l:=ao p q sch) im hn)
 have hvl:=kw hprp hs
 have hst:=O1 p q sch x number sol
 have hord:=HF p q hvld
 have hwide:=sol.rdy.wide
 have hcpy:=QL _ hwide
 have hT5:=fun j r=>IA p q sch (ao p q sch) x hlen (by omega) 5 (.inl rfl) j r
 have hT6:=fun j r=>IA p q sch (ao p q sch) x hlen (by omega) 6 (.inr rfl) j r
 have hO8:=Ix (p:=p) hvld
 have hb5:=sol.five
 have hb6:=sol.six
 have hrd:=sol.rdy
 have hsl:=gf hs
 have hthr:=(a9 hvld).thr
 have hsiz:=sol.siz
 unfold xF zH zI at he fin0
 rw[hsiz] at he fin0 hrd
 have hom:∀r∈iR p.rules p.states.length,0<=r/\r<p.rules.length:=fun r hr=>r9 hr
 have hav:lU dX 400 (.agg [.nilsl, .sl 0 ak (bw p q (j0 (ao p q sch) x)).states, .int .i64 (bw p q (j0 (ao p q sch) x)).correct, .sl 0 ak (bw p q (j0 (ao p q sch) x)).sent, .sl 0 ak (bw p q (j0 (ao p q sch) x)).faulty, .int .i64 0]) (.agg (cy (bw p q (j0 (ao p q sch) x)))):=aa
 generalize bw p q (j0 (ao p q sch) x)=C0 at*
 generalize ao p q sch=vars at*
 generalize hOO:iR p.rules p.states.length=ord at*
 generalize hsz:(⟨x.getD 0 0,x.getD 1 0,x.getD 2 0⟩:aN)=s at*
 have es:gr s=[.int .i64 (x.getD 0 0), .int .i64 (x.getD 1 0), .int .i64 (x.getD 2 0)]:=by rw[<-hsz];rfl
 refine aj.news 400 dX (dx p q sch vars []) (.ptr 200 0) hbeg (aa) rfl (by rintro u M' ⟨rfl,rfl⟩;exact⟨(aa),(aa)⟩) ?_
 conv=>whnf
 refine aj.call dX (dx p q sch vars []) 400 rfl (aa) (aa) hst ?_
 rintro u M' ⟨rfl,rfl⟩
 refine⟨dX,dx p q sch vars [], .agg (cy C0),rfl,(aa),hav,?_⟩
 clear hav
 conv=>whnf
 (refine oP (hcpy) ?_;conv=>whnf)
 refine aI ?_
 conv=>whnf
 refine a8.loopF ae ag (fun y:Nat×aD×List bX=>y.1<=sch.length+1/\fp p s y.2.1/\y.2.2.length<=768*y.1/\E=(kI p s (fun j r=>iJ vars x 5 j r) (fun j r=>iJ vars x 6 j r) (kH ord (sch.length+1-y.1) y.1) y.2.1 y.2.2).2.2/\(E=0->A= .tup [.agg (gr s), .agg (cy C0++[.sl qO iA (kI p s (fun j r=>iJ vars x 5 j r) (fun j r=>iJ vars x 6 j r) (kH ord (sch.length+1-y.1) y.1) y.2.1 y.2.2).2.1]), .int .i64 0])) (fun y=>[(90, .int .i64 (y.1:Int))]) (fun y=>Sb p q sch vars s C0 y.2.1 y.2.2) (fun y=>sch.length+1-y.1) (0,C0,[]) ⟨Nat.zero_le _,hrd,Nat.zero_le _,he,fin0⟩ ?_;conv=>whnf
 refine⟨?_,?_⟩
 ·dsimp only
  unfold Sb
  rw[es]
  exact bd.by_ ([(10, .old 10),(11, .old 11),(15, .old 15),(17, .old 17),(18, .old 18),(1000, .nil 3)]++dX) _ 400 rfl (aa) (aa)
 rintro⟨j,c,xs⟩ ⟨hj,hrc,hxs,hE,hA⟩
 dsimp only at hj hrc hxs hE hA
 conv=>whnf
 refine ai ?_ ?_<;>(intro g1;conv=>whnf)
 rotate_left
 ·obtain rfl:j=sch.length+1:=by omega
  rw[Nat.sub_self] at hE hA
  have hA:=hA hE
  refine o9 ?_
  conv=>whnf
  repeat' first
   |exact True.intro
   |(refine And.intro ?_ ?_<;>conv=>whnf)
   |exact hA.symm
   |exact rfl
   |fail
 (refine oP (hord) ?_;conv=>whnf)
 have e1:sch.length+1-j=(sch.length-j)+1:=by omega
 rw[e1,kH] at hE hA
 clear e1
 refine a8.loopF ae ag (fun z:Nat×aD×List bX=>z.1<=ord.length/\fp p s z.2.1/\z.2.2.length<=768*j+16*z.1/\E=(kI p s (fun j r=>iJ vars x 5 j r) (fun j r=>iJ vars x 6 j r) ((ord.drop z.1).map (fun r=>(j,r))++kH ord (sch.length-j) (j+1)) z.2.1 z.2.2).2.2/\(E=0->A= .tup [.agg (gr s), .agg (cy C0++[.sl qO iA (kI p s (fun j r=>iJ vars x 5 j r) (fun j r=>iJ vars x 6 j r) ((ord.drop z.1).map (fun r=>(j,r))++kH ord (sch.length-j) (j+1)) z.2.1 z.2.2).2.1]), .int .i64 0])) (fun z=>[(96, .int .i64 (z.1:Int))]) (fun z=>Sb p q sch vars s C0 z.2.1 z.2.2) (fun z=>ord.length-z.1) (0,c,xs) ⟨Nat.zero_le _,hrc,by dsimp only;omega,hE,hA⟩ ?_;conv=>whnf
 refine⟨bd.by_ ([(10, .old 10),(11, .old 11),(15, .old 15),(17, .old 17),(18, .old 18),(1000, .old 1000)]++dX) _ 400 rfl (aa) (aa),?_⟩
 clear hE hA hxs hrc
 rintro⟨i,c,xs⟩ ⟨hi,hrc,hxs,hE,hA⟩
 dsimp only at hi hrc hxs hE hA
 conv=>whnf
 refine ai ?_ ?_<;>(intro g2;conv=>whnf)
 rotate_left
 ·obtain rfl:i=ord.length:=by omega
  rw[List.drop_length,List.map_nil,List.nil_append] at hE hA
  refine aI ?_
  conv=>whnf
  refine⟨(j+1,c,xs),?_,⟨by dsimp only;omega,hrc,by dsimp only;omega,by dsimp only;rw[show sch.length+1-(j+1)=sch.length-j by omega];exact hE,by dsimp only;rw[show sch.length+1-(j+1)=sch.length-j by omega];exact hA⟩,by dsimp only;omega⟩
  exact bd.by_ ([(10, .old 10),(11, .old 11),(15, .old 15),(17, .old 17),(18, .old 18),(1000, .old 1000)]++dX) _ 400 rfl (aa) (aa)
 have hil:i<ord.length:=by omega
 refine nI ?_
 rw[tN]
 conv=>whnf
 rw[List.drop_eq_getElem_cons hil,<-am 0 hil,List.map_cons,List.cons_append,kJ] at hE hA
 have hrm:=aH (0:Int) hil
 have hrr:=hom _ hrm
 have h5:=hb5 j _ hrm
 have h6:=hb6 j _ hrm
 have t5:=hT5 j (ord.getD i 0)
 have t6:=hT6 j (ord.getD i 0)
 generalize ord.getD i 0=r at*
 generalize iJ vars x 5 j r=a5 at*
 generalize iJ vars x 6 j r=a6 at*
 have hacc:=OT p s c hp hrc r hrr (Ij sol.thr hvld hrr) a5.toNat a6.toNat (by omega) (by omega)
 have kacc:=Dh (ri:=r) (n:=a5.toNat) (m:=a6.toNat) hrc
 rw[Int.toNat_of_nonneg h5.1,Int.toNat_of_nonneg h6.1] at hacc
 generalize gu p s c r a5.toNat a6.toNat=R at*
 obtain⟨d,ys,e⟩:=R
 unfold QM at hacc
 dsimp only at hacc kacc hE hA
 generalize kI p s (fun j r=>iJ vars x 5 j r) (fun j r=>iJ vars x 6 j r)=RA at*
 apply jq
 case k=>
  intro o1 o2 o3 o4 o5 o6
  refine xm [0,3,4,5,6,7,9,10,11,12,15,16,17,18,21,22] (by decide+kernel) ?_
  conv=>whnf
  repeat' first
   |exact True.intro
   |(refine And.intro ?_ ?_<;>conv=>whnf)
   |(refine aj.call dX (dx p q sch vars []) 400 rfl (aa) (show fV dX 400 [.ptr 200 0, .sl 0 ak x, .int .i64 5, .int .i64 (j:Int), .int .i64 r] _ from(aa)) t5 ?_;rintro u M' ⟨rfl,rfl⟩;refine⟨dX,dx p q sch vars [], .int .i64 a5,rfl,(aa),(aa),?_⟩;conv=>whnf)
   |(refine aj.call dX (dx p q sch vars []) 400 rfl (aa) (show fV dX 400 [.ptr 200 0, .sl 0 ak x, .int .i64 6, .int .i64 (j:Int), .int .i64 r] _ from(aa)) t6 ?_;rintro u M' ⟨rfl,rfl⟩;refine⟨dX,dx p q sch vars [], .int .i64 a6,rfl,(aa),(aa),?_⟩;conv=>whnf)
   |(refine aj.of_pure (n:=5) hacc rfl ?_;rintro _ rfl;conv=>whnf)
   |with_reducible assumption
   |fail
 all_goals try first
  |exact True.intro
  |exact True
 all_goals
  by_cases h0:e=0
  rotate_left
  ·rw[if_pos h0] at hE
   refine dQ h0 ?_
   conv=>whnf
   exact⟨fin _ hE h0,rfl⟩
  ·rw[if_neg (fun y=>y h0)] at hE hA
   obtain⟨_,hrd2,hyl⟩:e=0/\fp p s d/\ys.length=a5.toNat+a6.toNat:=by
    rcases kacc with k|k
    ·exact k
    ·exact absurd h0 k.1
   refine j9 (fun y=>y h0) ?_
   conv=>whnf
   refine xm [1,3,6] (by decide+kernel) ?_
   conv=>whnf
   repeat' first
    |exact True.intro
    |(refine And.intro ?_ ?_<;>conv=>whnf)
    |(refine dn ?_;conv=>whnf)
    |(refine di ys rfl (by dsimp only;omega) ?_;conv=>whnf)
    |(refine aI ?_;conv=>whnf)
    |exact⟨(i+1,d,xs++ys),bd.by_ ([(10, .old 10),(11, .old 11),(15, .old 15),(17, .old 17),(18, .old 18),(1000, .old 128)]++dX) _ 400 rfl (aa) (aa),⟨by dsimp only;omega,hrd2,by dsimp only;rw[List.length_append];omega,hE,hA⟩,by dsimp only;omega⟩
    |fail
end Go.Proofs.YtekmminpfhacpaaGreatDoor
