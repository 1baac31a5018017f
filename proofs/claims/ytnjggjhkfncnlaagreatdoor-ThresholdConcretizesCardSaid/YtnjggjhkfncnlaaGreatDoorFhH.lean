import Derived.Test.YtnjggjhkfncnlaaGreatDoorHB
import Derived.Test.YtnjggjhkfncnlaaGreatDoorX1
import Derived.Test.YtnjggjhkfncnlaaGreatDoorW3
set_option linter.unusedVariables false
set_option linter.unusedSimpArgs false
namespace Go.Proofs.YtnjggjhkfncnlaaGreatDoor
set_option maxRecDepth 100000
set_option maxHeartbeats 16000000
abbrev JP:List AV:=[.int .i64 0, .int .i64 0, .int .i64 0]
noncomputable abbrev KD (p:au) (q:aV) (sch:List Int) (vars:List Vb) (s:bA) (st c:aR) (xs:List dH):List (Nat×cn):=
 [(10, .box 34 JP),(11, .box 39 (eH++[.nilsl])),(15, .box 34 (cj s)),(17, .box 36 (aW c)),(18, .box 39 (aW st++[.row 1000 xs.length 3])),(1000, .row 80 ig de xs)]++c9 p q sch vars []
theorem xC {p:au} {q:aV} {sch x:List Int} {number e:Int} (h:mZ p q sch x number=e) (he:e≠0):qz p q sch x number= .tup [.agg JP, .agg (eH++[.nilsl]), .int .i64 e]:=by
 unfold qz
 rw[h,if_pos he]
theorem xD {p:au} {q:aV} {sch x:List Int} {number:Int} (h:mZ p q sch x number=0):qz p q sch x number= .tup [.agg (cj (f8 (gr (ao p q sch) x))), .agg (aW (ef p q (gr (ao p q sch) x))++[.sl ig de (vX p q sch x).2.1]), .int .i64 0]:=by
 unfold qz
 rw[if_neg (fun y=>y h)]
theorem Ih (p:au) (q:aV) (sch x:List Int) (number:Int) (h:FM p q sch x number):ak Tryz.prog 40 [.ptr 200 0, .sl 0 an x] (aj.ofL (c9 p q sch (ao p q sch) []))
   (fun u M=>u= .agg [.nilsl, .sl 0 an (ef p q (gr (ao p q sch) x)).states, .int .i64 (ef p q (gr (ao p q sch) x)).correct, .sl 0 an (ef p q (gr (ao p q sch) x)).sent, .sl 0 an (ef p q (gr (ao p q sch) x)).faulty, .int .i64 0]/\M=aj.ofL (c9 p q sch (ao p q sch) [])):=by
 have hln:=(aK (aQ h.prp).vld).len
 have hlen:=h.len
 have hnd:=dL h.prp sch
 have hv3:3<=(ao p q sch).length:=by unfold ao;simp only[List.length_append,List.length_cons,List.length_nil];omega
 have hvl:=dM h.prp h.scm
 have e:=FK h.prp (sch:=sch) x
 have hw8:=b8 h.rdy.wide
 have hsm:=h.rdy.sz
 have hvc:=h.rdy.vc.len
 have hmod:iU p (f8 (gr (ao p q sch) x))<=8:=by unfold iU;split<;>omega
 have hl8:(ef p q (gr (ao p q sch) x)).states.length<=8:=by omega
 have hsiz:=h.siz
 have e2:(ef p q (gr (ao p q sch) x)).correct=x.getD 0 0-x.getD 2 0:=by
  have a:=congrArg bA.n hsiz
  have b:=congrArg bA.f hsiz
  unfold f8 at a b
  dsimp only at a b
  show gr (ao p q sch) x ⟨0,0,0⟩-gr (ao p q sch) x ⟨2,0,0⟩=_
  rw[a,b]
 have e3:(ef p q (gr (ao p q sch) x)).sent=List.replicate p.messages.length 0:=rfl
 have e4:(ef p q (gr (ao p q sch) x)).faulty=List.replicate p.messages.length 0:=rfl
 have hW:FP (ao p q sch) x p.states.length 2=mY (ao p q sch) x 3 p.states.length++mY (ao p q sch) x 4 p.states.length:=by
  show[]++mY (ao p q sch) x (3+((0:Nat):Int)) p.states.length++mY (ao p q sch) x (3+((1:Nat):Int)) p.states.length=_
  rw[List.nil_append]
  rfl
 have hT:∀y:Nat,y<2->∀z:Nat,0<=fO (ao p q sch) x (3+(y:Int)) 0 z/\(z<p.states.length->fO (ao p q sch) x (3+(y:Int)) 0 z<=8):=fun y hy z=>by
  have h0:0<=fO (ao p q sch) x (3+(y:Int)) 0 z:=by
   rw[nU hnd]
   split
   ·rename_i hm
    obtain⟨j,hj,ej⟩:=List.getElem_of_mem hm
    rw[<-ej,<-ay cm hj,qv hnd x hj]
    exact(h.pnt j (by omega)).1
   ·exact Int.le_refl _
  refine⟨h0,fun hz=>?_⟩
  have hsub:(List.replicate (fO (ao p q sch) x (3+(y:Int)) 0 z).toNat (z:Int)).length<=(mY (ao p q sch) x (3+(y:Int)) p.states.length).length:=by
   unfold mY
   obtain⟨l1,l2,el⟩:=List.append_of_mem (List.mem_range.2 hz)
   rw[el,List.flatMap_append,List.flatMap_cons]
   simp only[List.length_append]
   omega
  rw[List.length_replicate] at hsub
  have h8:(mY (ao p q sch) x 3 p.states.length).length+(mY (ao p q sch) x 4 p.states.length).length<=8:=by
   have:=congrArg List.length e
   rw[List.length_append] at this
   omega
  obtain rfl|rfl:y=0\/y=1:=by omega
  ·have:(mY (ao p q sch) x (3+((0:Nat):Int)) p.states.length).length<=8:=by show(mY (ao p q sch) x 3 p.states.length).length<=8;omega
   omega
  ·have:(mY (ao p q sch) x (3+((1:Nat):Int)) p.states.length).length<=8:=by show(mY (ao p q sch) x 4 p.states.length).length<=8;omega
   omega
 have hX:∀y:Nat,y<2->∀z,z<=p.states.length->(mY (ao p q sch) x (3+(y:Int)) z).length<=8*z:=fun y hy z hz=>yV z fun z' hz'=>(hT y hy z').2 (by omega)
 have:=Ig p q sch (ao p q sch) x (by omega) (by omega) hlen hv3 (by omega) (h.pnt 0 (by omega)) (h.pnt 2 (by omega)) (fun y hy z hz=>⟨(hT y hy z).1,(hT y hy z).2 hz⟩)
  (fun y hy=>by
   have a:=hX 0 (by omega) p.states.length (Nat.le_refl _)
   have b:=hX 1 (by omega) p.states.length (Nat.le_refl _)
   obtain rfl|rfl|rfl:y=0\/y=1\/y=2:=by omega
   ·exact Nat.zero_le _
   ·show([]++mY (ao p q sch) x (3+((0:Nat):Int)) p.states.length).length<=_
    rw[List.nil_append];omega
   ·show([]++mY (ao p q sch) x (3+((0:Nat):Int)) p.states.length++mY (ao p q sch) x (3+((1:Nat):Int)) p.states.length).length<=_
    rw[List.nil_append,List.length_append];omega) hX
 rw[hW,e] at this
 rw[e2,e3,e4]
 exact this
theorem vY (p:au) (q:aV) (hp:gM p) (hq:qP q) (sch:List Int) (hl:sch.length<=140737488355328) (number:Int) (x:List Int) (hx:x.length<=140737488355328):
  ab Tryz.prog 10 [.agg (aO p), .agg (fg q), .sl 0 an sch, .int .i64 number, .sl 0 an x] (fun u=>u=qz p q sch x number):=by
 have he:=mZ.eq_1 p q sch x number
 have fin:∀e,mZ p q sch x number=e->e≠0-> .tup [.agg JP, .agg (eH++[.nilsl]), .int .i64 e]=qz p q sch x number:=fun e h h0=>(xC h h0).symm
 have fin0:=xD (p:=p) (q:=q) (sch:=sch) (x:=x) (number:=number)
 generalize qz p q sch x number=A at fin fin0
 generalize mZ p q sch x number=E at he fin fin0
 refine ab.intro ac ag Tryz.func10 rfl (by decide) ?_;(conv=>whnf)
 refine al rfl ?_
 conv=>whnf
 refine al rfl ?_
 conv=>whnf
 refine ak.of_pure (n:=5) (rR p q hp hq) (by rfl) ?_
 rintro _ rfl
 by_cases h:cV p q=0
 rotate_left
 ·rw[if_pos h] at he
  rw[gg rfl h]
  conv=>whnf
  refine da h ?_
  conv=>whnf
  exact⟨fin _ he h,rfl⟩
 rw[if_neg (by omega)] at he
 rw[iL h]
 have hcs:=xh h
 conv=>whnf
 refine fI ?_
 conv=>whnf
 refine dC (nG p q sch hl) (fun _=>?_) (fun _=>?_)<;>(conv=>whnf)
 rotate_left
 ·rename_i hs
  rw[if_pos (.inl hs)] at he
  exact⟨fin _ he (by decide),rfl⟩
 rename_i hs
 refine ah ?_ ?_<;>(intro h1;conv=>whnf)
 ·rw[if_pos (.inr (.inl h1))] at he
  exact⟨fin _ he (by decide),rfl⟩
 refine ah ?_ ?_<;>(intro h2;conv=>whnf)
 ·rw[if_pos (.inr (.inr (by omega)))] at he
  exact⟨fin _ he (by decide),rfl⟩
 rw[if_neg (fun hh=>by rcases hh with hh|hh|hh;exact hh hs;omega;omega)] at he
 have hS:=xr (lT p q sch number) x (r3 (tk (c8 h) hs number)) hx
 unfold qb at hS
 have eS:(lT p q sch number).vars=((ao p q sch).length:Int)/\(lT p q sch number).rows=dq p q sch number:=⟨rfl,rfl⟩
 rw[eS.1,eS.2] at hS
 (refine oP (CZ p q (c8 h) sch hs number (by omega)) ?_;conv=>whnf)
 refine dC (hS) (fun _=>?_) (fun _=>?_)<;>(conv=>whnf)
 rotate_left
 ·rename_i h3
  rw[if_pos h3] at he
  exact⟨fin _ he (by decide),rfl⟩
 rename_i h3
 rw[if_neg (fun y=>y h3)] at he
 have hlen:=tS h3
 have hv3:3<=(ao p q sch).length:=by unfold ao;simp only[List.length_append,List.length_cons,List.length_nil];omega
 have hpnt:=h3.2.2.1
 first|(refine dI ?_;trace "I")|(refine dR ?_;trace "R")|(refine dP ?_;trace "P")|(refine IH (by decide+kernel) ?_;trace "G")|(refine mm (by decide+kernel) ?_;trace "O")|trace "none"
 conv=>whnf
 refine nI ?_
 conv=>whnf
 refine nI ?_
 conv=>whnf
 refine nI ?_
 conv=>whnf
 rw[show(Int.toNat 0)=0 from rfl,show(Int.toNat 1)=1 from rfl,show(Int.toNat 2)=2 from rfl]
 refine ah ?_ ?_<;>(intro h8;conv=>whnf)
 ·rw[if_pos h8] at he
  exact⟨fin _ he (by decide),rfl⟩
 rw[if_neg h8] at he
 have sol:=xA h hs h3 h8
 have hprp:=c8 h
 have hvld:=(aQ hprp).vld
 have hln:=(aK hvld).len
 have hnd:=dL hprp sch
 have hbeg:=Jd p q sch hprp hs fun n hn=>rZ (aP (l:=ao p q sch) cm hn)
 have hvl:=dM hprp hs
 have hst:=Ih p q sch x number sol
 have hord:=CL p q hvld
 have hwide:=sol.rdy.wide
 have hcpy:=JM _ hwide
 have hT5:=fun j r=>DU p q sch (ao p q sch) x hlen (by omega) 5 (.inl rfl) j r
 have hT6:=fun j r=>DU p q sch (ao p q sch) x hlen (by omega) 6 (.inr rfl) j r
 have hO8:=qy (p:=p) hvld
 have hb5:=sol.five
 have hb6:=sol.six
 have hrd:=sol.rdy
 have hsl:=cH hs
 have hthr:=(aK hvld).thr
 have hsiz:=sol.siz
 unfold vX JX JY at he fin0
 rw[hsiz] at he fin0 hrd
 have hom:∀r∈jY p.rules p.states.length,0<=r/\r<p.rules.length:=fun r hr=>oS hr
 have hav:jr dh 400 (.agg [.nilsl, .sl 0 an (ef p q (gr (ao p q sch) x)).states, .int .i64 (ef p q (gr (ao p q sch) x)).correct, .sl 0 an (ef p q (gr (ao p q sch) x)).sent, .sl 0 an (ef p q (gr (ao p q sch) x)).faulty, .int .i64 0]) (.agg (aW (ef p q (gr (ao p q sch) x)))):=aa
 generalize ef p q (gr (ao p q sch) x)=C0 at*
 generalize ao p q sch=vars at*
 generalize hOO:jY p.rules p.states.length=ord at*
 generalize hsz:(⟨x.getD 0 0,x.getD 1 0,x.getD 2 0⟩:bA)=s at*
 have es:cj s=[.int .i64 (x.getD 0 0), .int .i64 (x.getD 1 0), .int .i64 (x.getD 2 0)]:=by rw[<-hsz];rfl
 refine ak.news 400 dh (c9 p q sch vars []) (.ptr 200 0) hbeg (aa) rfl (by rintro u M' ⟨rfl,rfl⟩;exact⟨(aa),(aa)⟩) ?_
 conv=>whnf
 refine ak.call dh (c9 p q sch vars []) 400 rfl (aa) (aa) hst ?_
 rintro u M' ⟨rfl,rfl⟩
 refine⟨dh,c9 p q sch vars [], .agg (aW C0),rfl,(aa),hav,?_⟩
 clear hav
 conv=>whnf
 (refine oP (hcpy) ?_;conv=>whnf)
 refine aI ?_
 conv=>whnf
 refine aH.loopF ac ag (fun y:Nat×aR×List dH=>y.1<=sch.length+1/\gu p s y.2.1/\y.2.2.length<=768*y.1/\E=(jQ p s (fun j r=>fO vars x 5 j r) (fun j r=>fO vars x 6 j r) (j5 ord (sch.length+1-y.1) y.1) y.2.1 y.2.2).2.2/\(E=0->A= .tup [.agg (cj s), .agg (aW C0++[.sl ig de (jQ p s (fun j r=>fO vars x 5 j r) (fun j r=>fO vars x 6 j r) (j5 ord (sch.length+1-y.1) y.1) y.2.1 y.2.2).2.1]), .int .i64 0])) (fun y=>[(90, .int .i64 (y.1:Int))]) (fun y=>KD p q sch vars s C0 y.2.1 y.2.2) (fun y=>sch.length+1-y.1) (0,C0,[]) ⟨Nat.zero_le _,hrd,Nat.zero_le _,he,fin0⟩ ?_;conv=>whnf
 refine⟨?_,?_⟩
 ·dsimp only
  unfold KD
  rw[es]
  exact aL.by_ ([(10, .old 10),(11, .old 11),(15, .old 15),(17, .old 17),(18, .old 18),(1000, .nil 3)]++dh) _ 400 rfl (aa) (aa)
 rintro⟨j,c,xs⟩ ⟨hj,hrc,hxs,hE,hA⟩
 dsimp only at hj hrc hxs hE hA
 conv=>whnf
 refine ah ?_ ?_<;>(intro g1;conv=>whnf)
 rotate_left
 ·obtain rfl:j=sch.length+1:=by omega
  rw[Nat.sub_self] at hE hA
  have hA:=hA hE
  refine mn ?_
  conv=>whnf
  repeat' first
   |exact True.intro
   |(refine And.intro ?_ ?_<;>conv=>whnf)
   |exact hA.symm
   |exact rfl
   |fail
 (refine oP (hord) ?_;conv=>whnf)
 have e1:sch.length+1-j=(sch.length-j)+1:=by omega
 rw[e1,j5] at hE hA
 clear e1
 refine aH.loopF ac ag (fun z:Nat×aR×List dH=>z.1<=ord.length/\gu p s z.2.1/\z.2.2.length<=768*j+16*z.1/\E=(jQ p s (fun j r=>fO vars x 5 j r) (fun j r=>fO vars x 6 j r) ((ord.drop z.1).map (fun r=>(j,r))++j5 ord (sch.length-j) (j+1)) z.2.1 z.2.2).2.2/\(E=0->A= .tup [.agg (cj s), .agg (aW C0++[.sl ig de (jQ p s (fun j r=>fO vars x 5 j r) (fun j r=>fO vars x 6 j r) ((ord.drop z.1).map (fun r=>(j,r))++j5 ord (sch.length-j) (j+1)) z.2.1 z.2.2).2.1]), .int .i64 0])) (fun z=>[(96, .int .i64 (z.1:Int))]) (fun z=>KD p q sch vars s C0 z.2.1 z.2.2) (fun z=>ord.length-z.1) (0,c,xs) ⟨Nat.zero_le _,hrc,by dsimp only;omega,hE,hA⟩ ?_;conv=>whnf
 refine⟨aL.by_ ([(10, .old 10),(11, .old 11),(15, .old 15),(17, .old 17),(18, .old 18),(1000, .old 1000)]++dh) _ 400 rfl (aa) (aa),?_⟩
 clear hE hA hxs hrc
 rintro⟨i,c,xs⟩ ⟨hi,hrc,hxs,hE,hA⟩
 dsimp only at hi hrc hxs hE hA
 conv=>whnf
 refine ah ?_ ?_<;>(intro g2;conv=>whnf)
 rotate_left
 ·obtain rfl:i=ord.length:=by omega
  rw[List.drop_length,List.map_nil,List.nil_append] at hE hA
  refine aI ?_
  conv=>whnf
  refine⟨(j+1,c,xs),?_,⟨by dsimp only;omega,hrc,by dsimp only;omega,by dsimp only;rw[show sch.length+1-(j+1)=sch.length-j by omega];exact hE,by dsimp only;rw[show sch.length+1-(j+1)=sch.length-j by omega];exact hA⟩,by dsimp only;omega⟩
  exact aL.by_ ([(10, .old 10),(11, .old 11),(15, .old 15),(17, .old 17),(18, .old 18),(1000, .old 1000)]++dh) _ 400 rfl (aa) (aa)
 have hil:i<ord.length:=by omega
 refine nI ?_
 rw[tN]
 conv=>whnf
 rw[List.drop_eq_getElem_cons hil,<-ay 0 hil,List.map_cons,List.cons_append,r9] at hE hA
 have hrm:=aP (0:Int) hil
 have hrr:=hom _ hrm
 have h5:=hb5 j _ hrm
 have h6:=hb6 j _ hrm
 have t5:=hT5 j (ord.getD i 0)
 have t6:=hT6 j (ord.getD i 0)
 generalize ord.getD i 0=r at*
 generalize fO vars x 5 j r=a5 at*
 generalize fO vars x 6 j r=a6 at*
 have hacc:=H1 p s c hp hrc r hrr (DG sol.thr hvld hrr) a5.toNat a6.toNat (by omega) (by omega)
 have kacc:=oQ (ri:=r) (n:=a5.toNat) (m:=a6.toNat) hrc
 rw[Int.toNat_of_nonneg h5.1,Int.toNat_of_nonneg h6.1] at hacc
 generalize gC p s c r a5.toNat a6.toNat=R at*
 obtain⟨d,ys,e⟩:=R
 unfold vS at hacc
 dsimp only at hacc kacc hE hA
 generalize jQ p s (fun j r=>fO vars x 5 j r) (fun j r=>fO vars x 6 j r)=RA at*
 apply cA
 case k=>
  intro o1 o2 o3 o4 o5 o6
  refine f7 [0,3,4,5,6,7,9,10,11,12,15,16,17,18,21,22] (by decide+kernel) ?_
  conv=>whnf
  repeat' first
   |exact True.intro
   |(refine And.intro ?_ ?_<;>conv=>whnf)
   |(refine ak.call dh (c9 p q sch vars []) 400 rfl (aa) (show ij dh 400 [.ptr 200 0, .sl 0 an x, .int .i64 5, .int .i64 (j:Int), .int .i64 r] _ from(aa)) t5 ?_;rintro u M' ⟨rfl,rfl⟩;refine⟨dh,c9 p q sch vars [], .int .i64 a5,rfl,(aa),(aa),?_⟩;conv=>whnf)
   |(refine ak.call dh (c9 p q sch vars []) 400 rfl (aa) (show ij dh 400 [.ptr 200 0, .sl 0 an x, .int .i64 6, .int .i64 (j:Int), .int .i64 r] _ from(aa)) t6 ?_;rintro u M' ⟨rfl,rfl⟩;refine⟨dh,c9 p q sch vars [], .int .i64 a6,rfl,(aa),(aa),?_⟩;conv=>whnf)
   |(refine ak.of_pure (n:=5) hacc rfl ?_;rintro _ rfl;conv=>whnf)
   |with_reducible exact o1
   |with_reducible exact o2
   |with_reducible exact o3
   |with_reducible exact o4
   |with_reducible exact o5
   |with_reducible exact o6
   |fail
 all_goals try first
  |exact True.intro
  |exact True
 all_goals
  by_cases h0:e=0
  rotate_left
  ·rw[if_pos h0] at hE
   refine da h0 ?_
   conv=>whnf
   exact⟨fin _ hE h0,rfl⟩
  ·rw[if_neg (fun y=>y h0)] at hE hA
   obtain⟨_,hrd2,hyl⟩:e=0/\gu p s d/\ys.length=a5.toNat+a6.toNat:=by
    rcases kacc with k|k
    ·exact k
    ·exact absurd h0 k.1
   refine j' (fun y=>y h0) ?_
   conv=>whnf
   refine f7 [1,3,6] (by decide+kernel) ?_
   conv=>whnf
   repeat' first
    |exact True.intro
    |(refine And.intro ?_ ?_<;>conv=>whnf)
    |(refine cb ?_;conv=>whnf)
    |(refine bD ys rfl (by dsimp only;omega) ?_;conv=>whnf)
    |(refine aI ?_;conv=>whnf)
    |exact⟨(i+1,d,xs++ys),aL.by_ ([(10, .old 10),(11, .old 11),(15, .old 15),(17, .old 17),(18, .old 18),(1000, .old 128)]++dh) _ 400 rfl (aa) (aa),⟨by dsimp only;omega,hrd2,by dsimp only;rw[List.length_append];omega,hE,hA⟩,by dsimp only;omega⟩
    |fail
end Go.Proofs.YtnjggjhkfncnlaaGreatDoor
