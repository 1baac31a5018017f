import Derived.Test.YtnjggjhkfncnlaaGreatDoorHB
import Derived.Test.YtnjggjhkfncnlaaGreatDoorFhH
import Derived.Test.YtnjggjhkfncnlaaGreatDoorY4
import Derived.Test.YtnjggjhkfncnlaaGreatDoorY1
set_option linter.unusedVariables false
set_option linter.unusedSimpArgs false
namespace Go.Proofs.YtnjggjhkfncnlaaGreatDoor
set_option maxRecDepth 100000
set_option maxHeartbeats 16000000
abbrev KE (sy:iq) (s:bA) (st c:aR) (xs:List dH):List (Nat×cn):=
 [(10, .box 34 JP),(11, .box 39 (eH++[.nilsl])),(13, .box 93 (qb sy)),(15, .box 34 (cj s)),(17, .box 39 (aW st++[.row 1000 xs.length 3])),(18, .box 36 (aW c)),(1000, .row 80 ig de xs)]
theorem Ii {p:au} {q:aV} {sch:List Int} {number:Int} (h:cV p q=0) (hs:¬(¬cM (aA p.rules).length sch\/number< -1\/(ta p q:Int)<=number)):qi p q sch number= .tup [.agg (qb (lT p q sch number)), .int .i64 0]:=by
 unfold qi
 rw[if_neg (by omega),if_neg hs]
 rfl
theorem Ij {p:au} {q:aV} {sch:List Int} {number:Int} (h:cV p q=0) (hs:¬cM (aA p.rules).length sch\/number< -1\/(ta p q:Int)<=number):qi p q sch number= .tup [.agg [.int .i64 0, .nilsl], .int .i64 1]:=by
 unfold qi
 rw[if_neg (by omega),if_pos hs]
theorem Ik {p:au} {q:aV} {sch:List Int} {number:Int} (h:cV p q≠0):qi p q sch number= .tup [.agg [.int .i64 0, .nilsl], .int .i64 (cV p q)]:=by
 unfold qi
 rw[if_pos h]
theorem FQ {p:au} {s:bA} {c:aR} (h:gu p s c) (ht:io p):qZ p s c=0:=by
 have hz:=h.sz
 have hs:bG p s=0:=by
  unfold bG
  rw[if_neg (fun y=>y h.val),if_neg (fun y=>y h.adm),if_neg (by omega)]
 unfold qZ
 rw[if_neg (fun y=>y hs),if_neg (fun y=>y ht)]
 unfold pS
 rw[if_pos h.vc]
theorem Il {p:au} {s:bA} {c:aR} (h:gu p s c) (ht:io p) {r n m:Int} (hr:0<=r/\r<p.rules.length) (hn:0<=n/\n<=8) (hm:0<=m/\m<=8):FJ p s c r n m=gC p s c r n.toNat m.toNat:=by
 unfold FJ
 rw[if_neg (fun y=>y (FQ h ht)),if_neg (by omega),if_neg (by omega)]
theorem vZ (p:au) (q:aV) (hp:gM p) (hq:qP q) (sch:List Int) (hl:sch.length<=140737488355328) (number:Int) (x:List Int) (hx:x.length<=140737488355328):
  ab Tryz.prog 11 [.agg (aO p), .agg (fg q), .sl 0 an sch, .int .i64 number, .sl 0 an x] (fun u=>u=qz p q sch x number):=by
 have he:=mZ.eq_1 p q sch x number
 have fin:∀e,mZ p q sch x number=e->e≠0-> .tup [.agg JP, .agg (eH++[.nilsl]), .int .i64 e]=qz p q sch x number:=fun e h h0=>(xC h h0).symm
 have fin0:=xD (p:=p) (q:=q) (sch:=sch) (x:=x) (number:=number)
 generalize qz p q sch x number=A at fin fin0
 generalize mZ p q sch x number=E at he fin fin0
 have hB:=HQ p q hp hq sch hl number
 by_cases h:cV p q=0
 rotate_left
 ·rw[if_pos h] at he
  rw[Ik h] at hB
  refine ab.intro ac ag Tryz.func11 rfl (by decide) ?_;(conv=>whnf)
  refine al rfl ?_
  conv=>whnf
  refine al rfl ?_
  conv=>whnf
  (refine oP (hB) ?_;conv=>whnf)
  refine da h ?_
  conv=>whnf
  exact⟨fin _ he h,rfl⟩
 rw[if_neg (by omega)] at he
 by_cases hs:¬cM (aA p.rules).length sch\/number< -1\/(ta p q:Int)<=number
 ·rw[if_pos hs] at he
  rw[Ij h hs] at hB
  refine ab.intro ac ag Tryz.func11 rfl (by decide) ?_;(conv=>whnf)
  refine al rfl ?_
  conv=>whnf
  refine al rfl ?_
  conv=>whnf
  (refine oP (hB) ?_;conv=>whnf)
  refine da (by decide) ?_
  conv=>whnf
  exact⟨fin _ he (by decide),rfl⟩
 rw[if_neg hs] at he
 rw[Ii h hs] at hB
 have hsc:cM (aA p.rules).length sch:=Classical.not_not.1 fun y=>hs (.inl y)
 have hS:=xB (lT p q sch number) x (r3 (tk (c8 h) hsc number)) hx
 refine ab.intro ac ag Tryz.func11 rfl (by decide) ?_;(conv=>whnf)
 refine al rfl ?_
 conv=>whnf
 refine al rfl ?_
 conv=>whnf
 (refine oP (hB) ?_;conv=>whnf)
 refine fI ?_
 conv=>whnf
 refine dC (hS) (fun _=>?_) (fun _=>?_)<;>(conv=>whnf)
 rotate_left
 ·rename_i h3
  rw[if_pos h3] at he
  exact⟨fin _ he (by decide),rfl⟩
 rename_i h3
 rw[if_neg (fun y=>y h3)] at he
 have hlen:=tS h3
 have hv3:3<=(ao p q sch).length:=by unfold ao;simp only[List.length_append,List.length_cons,List.length_nil];omega
 have hpnt:=h3.2.2.1
 refine nI ?_
 conv=>whnf
 rw[show(Int.toNat 0)=0 from rfl]
 refine ah ?_ ?_<;>(intro h8;conv=>whnf)
 ·rw[if_pos h8] at he
  exact⟨fin _ he (by decide),rfl⟩
 rw[if_neg h8] at he
 have sol:=xA h hsc h3 h8
 have hprp:=c8 h
 have hvld:=(aQ hprp).vld
 have hln:=(aK hvld).len
 have hnd:=dL hprp sch
 have hvl:=dM hprp hsc
 have hord:=CN p hvld
 have hvar:=qe p q hp hq hprp sch hsc
 have hbeg:=Ie p (by omega) (ao p q sch) x hlen (by omega) (by omega) hpnt
 have eW:tV (ao p q sch) x 2=(ef p q (gr (ao p q sch) x)).states:=by
  rw[<-FL hprp (sch:=sch) x]
  show[]++tQ (ao p q sch) x (3+((0:Nat):Int)) (ao p q sch).length++tQ (ao p q sch) x (3+((1:Nat):Int)) (ao p q sch).length=_
  rw[List.nil_append]
  rfl
 have e2:x.getD 0 0-x.getD 2 0=(ef p q (gr (ao p q sch) x)).correct:=by
  have a:=congrArg bA.n sol.siz
  have b:=congrArg bA.f sol.siz
  unfold f8 at a b
  dsimp only at a b
  show _=gr (ao p q sch) x ⟨0,0,0⟩-gr (ao p q sch) x ⟨2,0,0⟩
  rw[a,b]
 rw[eW,e2] at hbeg
 have eC:(⟨[],(ef p q (gr (ao p q sch) x)).states,(ef p q (gr (ao p q sch) x)).correct,List.replicate p.messages.length 0,List.replicate p.messages.length 0,0⟩:aR)=ef p q (gr (ao p q sch) x):=rfl
 rw[eC] at hbeg
 have hT:=fun kind j r=>Ic (ao p q sch) hnd x hlen (by omega) kind j r
 have hO8:=qy (p:=p) hvld
 have hb5:=sol.five
 have hb6:=sol.six
 have hrd:=sol.rdy
 have htr:=sol.thr
 have hsl:=cH hsc
 have hthr:=(aK hvld).thr
 have hsiz:=sol.siz
 unfold vX JX JY at he fin0
 rw[hsiz] at he fin0 hrd
 have hom:∀r∈jY p.rules p.states.length,0<=r/\r<p.rules.length:=fun r hr=>oS hr
 clear eC e2 eW sol hsiz hS hB
 generalize ef p q (gr (ao p q sch) x)=C0 at*
 generalize ao p q sch=vars at*
 generalize hOO:jY p.rules p.states.length=ord at*
 generalize hsz:(⟨x.getD 0 0,x.getD 1 0,x.getD 2 0⟩:bA)=s at*
 have es:cj s=[.int .i64 (x.getD 0 0), .int .i64 (x.getD 1 0), .int .i64 (x.getD 2 0)]:=by rw[<-hsz];rfl
 refine dI ?_
 conv=>whnf
 refine nI ?_
 conv=>whnf
 refine nI ?_
 conv=>whnf
 refine nI ?_
 conv=>whnf
 (refine oP (hvar) ?_;conv=>whnf)
 (refine oP (hbeg) ?_;conv=>whnf)
 (refine oP (hord) ?_;conv=>whnf)
 refine aH.loopF ac ag (fun y:Nat×aR×List dH=>y.1<=sch.length+1/\gu p s y.2.1/\y.2.2.length<=768*y.1/\E=(jQ p s (fun j r=>fO vars x 5 j r) (fun j r=>fO vars x 6 j r) (j5 ord (sch.length+1-y.1) y.1) y.2.1 y.2.2).2.2/\(E=0->A= .tup [.agg (cj s), .agg (aW C0++[.sl ig de (jQ p s (fun j r=>fO vars x 5 j r) (fun j r=>fO vars x 6 j r) (j5 ord (sch.length+1-y.1) y.1) y.2.1 y.2.2).2.1]), .int .i64 0])) (fun y=>[(20, .int .i64 (y.1:Int))]) (fun y=>KE (lT p q sch number) s C0 y.2.1 y.2.2) (fun y=>sch.length+1-y.1) (0,C0,[]) ⟨Nat.zero_le _,hrd,Nat.zero_le _,he,fin0⟩ ?_;conv=>whnf
 refine⟨?_,?_⟩
 ·dsimp only
  unfold KE
  rw[es]
  exact aL.by_ [(10, .old 10),(11, .old 11),(13, .old 13),(15, .old 15),(17, .old 17),(18, .old 18),(1000, .nil 3)] _ 400 rfl (aa) (aa)
 rintro⟨j,c,xs⟩ ⟨hj,hrc,hxs,hE,hA⟩
 dsimp only at hj hrc hxs hE hA
 conv=>whnf
 refine ah ?_ ?_<;>(intro g1;conv=>whnf)
 rotate_left
 ·obtain rfl:j=sch.length+1:=by omega
  rw[Nat.sub_self] at hE hA
  have hA:=hA hE
  refine mn ?_
  conv=>whnf
  repeat' first
   |exact True.intro
   |(refine And.intro ?_ ?_<;>conv=>whnf)
   |exact hA.symm
   |exact rfl
   |fail
 have e1:sch.length+1-j=(sch.length-j)+1:=by omega
 rw[e1,j5] at hE hA
 clear e1
 refine aH.loopF ac ag (fun z:Nat×aR×List dH=>z.1<=ord.length/\gu p s z.2.1/\z.2.2.length<=768*j+16*z.1/\E=(jQ p s (fun j r=>fO vars x 5 j r) (fun j r=>fO vars x 6 j r) ((ord.drop z.1).map (fun r=>(j,r))++j5 ord (sch.length-j) (j+1)) z.2.1 z.2.2).2.2/\(E=0->A= .tup [.agg (cj s), .agg (aW C0++[.sl ig de (jQ p s (fun j r=>fO vars x 5 j r) (fun j r=>fO vars x 6 j r) ((ord.drop z.1).map (fun r=>(j,r))++j5 ord (sch.length-j) (j+1)) z.2.1 z.2.2).2.1]), .int .i64 0])) (fun z=>[(21, .int .i64 (z.1:Int))]) (fun z=>KE (lT p q sch number) s C0 z.2.1 z.2.2) (fun z=>ord.length-z.1) (0,c,xs) ⟨Nat.zero_le _,hrc,by dsimp only;omega,hE,hA⟩ ?_;conv=>whnf
 refine⟨aL.by_ [(10, .old 10),(11, .old 11),(13, .old 13),(15, .old 15),(17, .old 17),(18, .old 18),(1000, .old 1000)] _ 400 rfl (aa) (aa),?_⟩
 clear hE hA hxs hrc
 rintro⟨i,c,xs⟩ ⟨hi,hrc,hxs,hE,hA⟩
 dsimp only at hi hrc hxs hE hA
 conv=>whnf
 refine ah ?_ ?_<;>(intro g2;conv=>whnf)
 rotate_left
 ·obtain rfl:i=ord.length:=by omega
  rw[List.drop_length,List.map_nil,List.nil_append] at hE hA
  refine aI ?_
  conv=>whnf
  refine⟨(j+1,c,xs),?_,⟨by dsimp only;omega,hrc,by dsimp only;omega,by dsimp only;rw[show sch.length+1-(j+1)=sch.length-j by omega];exact hE,by dsimp only;rw[show sch.length+1-(j+1)=sch.length-j by omega];exact hA⟩,by dsimp only;omega⟩
  exact aL.by_ [(10, .old 10),(11, .old 11),(13, .old 13),(15, .old 15),(17, .old 17),(18, .old 18),(1000, .old 1000)] _ 400 rfl (aa) (aa)
 have hil:i<ord.length:=by omega
 rw[List.drop_eq_getElem_cons hil,<-ay 0 hil,List.map_cons,List.cons_append,r9] at hE hA
 have hrm:=aP (0:Int) hil
 have hrr:=hom _ hrm
 have h5:=hb5 j _ hrm
 have h6:=hb6 j _ hrm
 have t5:=hT 5 j (ord.getD i 0)
 have t6:=hT 6 j (ord.getD i 0)
 have hwc:=b8 hrc.wide
 have hacc:=H7 p s c hp (by unfold xw;omega) (ord.getD i 0) (fO vars x 5 j (ord.getD i 0)) (fO vars x 6 j (ord.getD i 0))
 rw[Il hrc htr hrr h5 h6] at hacc
 generalize fO vars x 5 j (ord.getD i 0)=a5 at*
 generalize fO vars x 6 j (ord.getD i 0)=a6 at*
 have kacc:=oQ (ri:=ord.getD i 0) (n:=a5.toNat) (m:=a6.toNat) hrc
 generalize gC p s c (ord.getD i 0) a5.toNat a6.toNat=R at*
 obtain⟨d,ys,e⟩:=R
 unfold vS at hacc
 dsimp only at hacc kacc hE hA
 rw[<-tN i] at t5 t6 hacc
 generalize jQ p s (fun j r=>fO vars x 5 j r) (fun j r=>fO vars x 6 j r)=RA at*
 refine dI ?_
 conv=>whnf
 refine nI ?_
 conv=>whnf
 refine nI ?_
 conv=>whnf
 (refine oC (t5) ?_;conv=>whnf)
 refine nI ?_
 conv=>whnf
 (refine oC (t6) ?_;conv=>whnf)
 (refine oC (hacc) ?_;conv=>whnf)
 by_cases h0:e=0
 rotate_left
 ·rw[if_pos h0] at hE
  refine da h0 ?_
  conv=>whnf
  exact⟨fin _ hE h0,rfl⟩
 rw[if_neg (fun y=>y h0)] at hE hA
 obtain⟨_,hrd2,hyl⟩:e=0/\gu p s d/\ys.length=a5.toNat+a6.toNat:=by
  rcases kacc with k|k
  ·exact k
  ·exact absurd h0 k.1
 refine j' (fun y=>y h0) ?_
 conv=>whnf
 refine bD ys rfl (by dsimp only;omega) ?_
 conv=>whnf
 refine aI ?_
 conv=>whnf
 exact⟨(i+1,d,xs++ys),aL.by_ [(10, .old 10),(11, .old 11),(13, .old 13),(15, .old 15),(17, .old 17),(18, .old 18),(1000, .old 122)] _ 400 rfl (aa) (aa),⟨by dsimp only;omega,hrd2,by dsimp only;rw[List.length_append];omega,hE,hA⟩,by dsimp only;omega⟩
end Go.Proofs.YtnjggjhkfncnlaaGreatDoor
namespace Go.Proofs.YtnjggjhkfncnlaaGreatDoor
open Go.ChangeShapes Go.WideShapes Go.ChangeAt Go.RowKit
def qA:Sh:=.sl (.int .nil) (.int .nil)
theorem Im:pD Tryz.prog 9 47=some qA:=by kernel_rfl
theorem FR:qW Tryz.prog 9 47=true:=by kernel_rfl
def yW:fT qA->List Int
 |(a,_,_)=>jH a
def Gq:fT qA->Int
 |(_,b,_)=>b
def Gr (sch:List Int) (n:Int):List AV:=[.sl 0 an sch, .int .i64 n]
theorem FS {S:ai} (y:fT qA):v5 S (ce qA y) (Gr (yW y) (Gq y)):=by
 obtain⟨a,b,⟨⟩⟩:=y
 exact⟨Cv.ints a,Cv.refl _ _,trivial⟩
theorem Io {y:fT qA} (h:qV qA y):(yW y).length<=140737488355328:=by
 obtain⟨a,b,⟨⟩⟩:=y
 simp only[yW,jj]
 exact h.1.1
end Go.Proofs.YtnjggjhkfncnlaaGreatDoor
namespace Go.Proofs.YtnjggjhkfncnlaaGreatDoor
set_option maxRecDepth 100000
set_option maxHeartbeats 16000000
theorem DV (c:aR) (xs:List dH) (hw:ct c=false) (hl:xs.length<=1000000):ab Tryz.prog 12 [.agg (aW c++[.sl ig de xs]), .agg (aW c++[.sl ig de xs])] (fun u=>u= .bool true):=by
 have h1:=DL c hw
 have h2:=xz xs hl
 refine ab.intro ac ag Tryz.func12 rfl (by decide) ?_;(conv=>whnf)
 refine al rfl ?_
 conv=>whnf
 refine al rfl ?_
 conv=>whnf
 (refine oP (h1) ?_;conv=>whnf)
 (refine oP (h2) ?_;conv=>whnf)
 exact⟨rfl,rfl⟩
theorem DW {p:au} {q:aV} {sch x:List Int} {number:Int} (h:mZ p q sch x number=0):FM p q sch x number/\(vX p q sch x).2.2=0:=by
 unfold mZ at h
 by_cases h1:cV p q≠0
 ·rw[if_pos h1] at h;exact absurd h h1
 rw[if_neg h1] at h
 by_cases h2:¬cM (aA p.rules).length sch\/number< -1\/(ta p q:Int)<=number
 ·rw[if_pos h2] at h;omega
 rw[if_neg h2] at h
 by_cases h3:¬vj (lT p q sch number) x
 ·rw[if_pos h3] at h;omega
 rw[if_neg h3] at h
 by_cases h4:8<x.getD 0 0
 ·rw[if_pos h4] at h;omega
 rw[if_neg h4] at h
 exact⟨xA (Classical.not_not.1 h1) (Classical.not_not.1 fun y=>h2 (.inl y)) (Classical.not_not.1 h3) h4,h⟩
theorem DX {p:au} {q:aV} {sch x:List Int} {number:Int} (h:FM p q sch x number):(vX p q sch x).2.1.length<=1000000:=by
 have hv:=(aQ h.prp).vld
 have h8:=qy (p:=p) hv
 have hs:=cH h.scm
 have ht:=(aK hv).thr
 have hp:=vW (jY p.rules p.states.length) (sch.length+1) 0
 have hm:(sch.length+1)*(jY p.rules p.states.length).length<=4*48:=Nat.mul_le_mul (by omega) h8
 unfold vX
 rcases yT (t5:=JX p q sch x) (t6:=JY p q sch x) (j5 (jY p.rules p.states.length) (sch.length+1) 0) _ [] h.rdy (fun y hy=>⟨(h.five y.1 y.2 (qx hy)).2,(h.six y.1 y.2 (qx hy)).2⟩) with ⟨_,k⟩|⟨_,k⟩
 ·simp only[List.length_nil] at k
  omega
 ·rw[k];exact Nat.zero_le _
theorem DY (p:au) (q:aV) (sch x:List Int) (number:Int):∃(s:bA) (c:aR) (xs:List dH) (e:Int),ct c=false/\xs.length<=1000000/\∀{f:FuncId} {args:List AV},ab Tryz.prog f args (fun u=>u=qz p q sch x number)->ab Tryz.prog f args (fun u=>u= .tup [.agg (cj s), .agg (aW c++[.sl ig de xs]), .int .i64 e]):=by
 by_cases h:mZ p q sch x number=0
 ·obtain⟨hs,_⟩:=DW h
  refine⟨f8 (gr (ao p q sch) x),_,_,0,hs.rdy.wide,DX hs,fun hF=>?_⟩
  rw[xD h] at hF
  exact hF
 ·refine⟨⟨0,0,0⟩,fC,[],mZ p q sch x number,by decide,Nat.zero_le _,fun hF=>?_⟩
  rw[xC rfl h] at hF
  exact ab.sub hF (by rintro _ rfl;exact⟨_,rfl,aa,rfl⟩)
theorem qB (p:au) (q:aV) (hp:gM p) (hq:qP q) (sch:List Int) (hl:sch.length<=140737488355328) (number:Int) (x:List Int) (hx:x.length<=140737488355328):
  ab Tryz.prog 4 [.agg (Gg p q), .agg (Gr sch number), .sl 0 an x] (fun u=>u= .bool true):=by
 have hs:=Jx
 have hF0:=vY p q hp hq sch hl number x hx
 have hR0:=vZ p q hp hq sch hl number x hx
 obtain⟨s,c,xs,e,h1,h2,h3⟩:=DY p q sch x number
 have hF:=h3 hF0
 have hR:=h3 hR0
 have hS:=DV c xs h1 h2
 clear hF0 hR0 h3
 refine ab.intro ac ag Tryz.func4 rfl (by decide) ?_;(conv=>whnf)
 refine al rfl ?_
 conv=>whnf
 refine al rfl ?_
 conv=>whnf
 apply cA
 case k=>
  intro o1 o2 o3 o4 o5 o6
  refine em [0,1,2,3] (by decide+kernel) ?_
  conv=>whnf
  repeat' first
   |exact True.intro
   |(refine And.intro ?_ ?_<;>conv=>whnf)
   |with_reducible exact o1
   |with_reducible exact o2
   |with_reducible exact o3
   |with_reducible exact o4
   |with_reducible exact o5
   |with_reducible exact o6
   |fail
 all_goals try first
  |exact True.intro
  |exact True
 all_goals
  refine dI ?_
  conv=>whnf
  (refine oP (hF) ?_;conv=>whnf)
  (refine oP (hR) ?_;conv=>whnf)
  refine da rfl ?_
  conv=>whnf
  refine da rfl ?_
  conv=>whnf
  (refine oP (hS) ?_;conv=>whnf)
  (refine oP (hs) ?_;conv=>whnf)
  exact⟨rfl,rfl⟩
end Go.Proofs.YtnjggjhkfncnlaaGreatDoor
