import Derived.Test.YtokjgegkhlkopaaGreatDoorLaC
import Derived.Test.YtokjgegkhlkopaaGreatDoorLaD
set_option linter.unusedVariables false
set_option linter.unusedSimpArgs false
namespace Go.Proofs.YtokjgegkhlkopaaGreatDoor
section
set_option maxRecDepth 100000
set_option maxHeartbeats 16000000
section
variable {p:ao} {q:bn} {s:az}
structure Bv (p:ao) (q:bn) (s:az) (l:List cS) (k:Nat) (y:iV):Prop where
 se:mH p q s true y
 nr:∀o∈y.1,¬c8 q o.c
 dn:∀j,j<k->(bu l j).src<0->¬c8 q (bu l j).c->∃i,i<y.1.length/\(bu y.1 i).c=(bu l j).c
 le:y.1.length<=k
theorem Bv.zero (l:List cS):Bv p q s l 0 ([],fun _=>none):=⟨mH.nil,fun _ h=>(nomatch h),fun _ h=>absurd h (Nat.not_lt_zero _),Nat.le_refl _⟩
theorem Bv.skip {l:List cS} {k:Nat} {y:iV} (h:Bv p q s l k y) (hs:¬((bu l k).src<0/\¬c8 q (bu l k).c)):Bv p q s l (k+1) y:=by
 refine⟨h.se,h.nr,fun j hj h1 h2=>?_,by have:=h.le;omega⟩
 by_cases e:j=k
 ·subst e;exact absurd ⟨h1,h2⟩ hs
 ·exact h.dn j (by omega) h1 h2
theorem Bv.ori (S:fV p q s) {l:List cS} {k:Nat} {y:iV} (h:Bv p q s l k y) (hl:eH p q s l) (hk:k<l.length) (h1:(bu l k).src<0):eH p q s (y.1++[bu l k]):=by
 rcases hl k hk with ⟨e,hi⟩|⟨j,_,e,_⟩
 ·have:=h.se.og.ini hi (bu l k).st
  rw[<-e] at this
  exact this
 ·omega
theorem Bv.step (S:fV p q s) {l:List cS} {k:Nat} {y:iV} (h:Bv p q s l k y) (hl:eH p q s l) (hk:k<l.length) (h1:(bu l k).src<0) (h2:¬c8 q (bu l k).c):
  Bv p q s l (k+1) (co p true y.1 y.2 (bu l k),i7 p true y.1 y.2 (bu l k)):=by
 have ho:=h.ori S hl hk h1
 obtain⟨⟨m,em⟩,hm,j0,_,hj0,ec⟩:=zY S h.se ho
 have el:y.1.length<=(co p true y.1 y.2 (bu l k)).length:=by rw[em,List.length_append];omega
 refine⟨(h.se.met S ho).2,fun o hz=>?_,fun j hj a b=>?_,?_⟩
 ·rcases hm o hz with hz|rfl
  ·exact h.nr o hz
  ·exact h2
 ·by_cases e:j=k
  ·subst e;exact⟨j0,hj0,ec⟩
  ·obtain⟨i,hi,e⟩:=h.dn j (by omega) a b
   refine⟨i,Nat.lt_of_lt_of_le hi el,?_⟩
   rw[<-e]
   show(bu (co p true y.1 y.2 (bu l k)) i).c=_
   rw[em]
   exact congrArg cS.c (dl hi)
 ·have:=sm p true y.1 y.2 (bu l k)
  have:=h.le
  show(co p true y.1 y.2 (bu l k)).length<=k+1
  omega
theorem Bv.fin (S:fV p q s) {l:List cS} {y:iV} (h:Bv p q s l l.length y) {m:List cS} (hp:l=(inF p true (lP p q s)).1++m):XpI p q s y []:=by
 refine⟨h.se,h.nr,fun c hc hn=>?_,Nat.zero_le _,fun k hk=>absurd hk (Nat.not_lt_zero _),fun k hk=>absurd hk (Nat.not_lt_zero _)⟩
 have e:=(mH.inF (ex:=true) S (lP p q s) fun c hc=>(lQ S).1 hc).2
 have hmem:=iy (iX p true) ((lP p q s).map fun c=>(⟨c,-1,aR⟩:cS)) [] ⟨c,-1,aR⟩ (List.mem_map.2 ⟨c,(lQ S).2 hc,rfl⟩)
 rw[<-e] at hmem
 obtain⟨o,ho,hoc⟩:=List.mem_map.1 hmem
 have hoc:o.c=c:=hoc
 have ho2:o∈(lP p q s).map fun c=>(⟨c,-1,aR⟩:cS):=by
  rw[e] at ho
  rcases lO _ _ ho with k|k
  ·cases k
  ·exact k
 obtain⟨c',_,rfl⟩:=List.mem_map.1 ho2
 have hoc:c'=c:=hoc
 subst hoc
 obtain⟨j,hj,ej⟩:=bp d6 (show(⟨c',-1,aR⟩:cS)∈l by rw[hp];exact List.mem_append_left _ ho)
 have ej:bu l j=⟨c',-1,aR⟩:=ej
 obtain⟨i,hi,e2⟩:=h.dn j hj (by rw[ej];show(-1:Int)<0;decide) (by rw[ej];exact hn)
 exact⟨i,hi,by rw[e2,ej]⟩
theorem Ld (S:fV p q s) {y:iV} (h:mH p q s true y) {L:List ap} (hC:un p q s true L):y.1.length<=L.length:=by
 have h1:(th y.1).Nodup:=h.sr.nodup
 have h2:∀c∈th y.1,c∈L:=by
  intro c hc
  obtain⟨i,hi,rfl⟩:=bp aC hc
  rw[ik] at hi
  rw[vY]
  obtain⟨_,n,d,hd,e⟩:=h.og.rp (ex:=true) S hi
  have:=hC.all S hd
  rw[e] at this
  obtain⟨z,hz,ez⟩:=List.mem_map.1 this
  have ez:z=(bu y.1 i).c:=ez
  rw[<-ez];exact hz
 have:=oj h1 h2
 rw[ik] at this
 exact this
end
def MV (l:List gP):aX:=.row 116 gW Im l
def Jp (l:List (List gP)):aX:=.row 165 [] pM l
def Le (p:ao) (s:az) (u v:AV):List AV:=[.str p.name, .int .i64 p.topology, .sl t0 cR p.states, .sl t0 cR p.messages, .sl t0 cR p.values, .int .i64 p.fault, .sl i0 eE p.resilience, .sl 0 aD p.initial, .sl 0 aD p.leader, .sl au fD p.rules, .int .i64 s.n, .int .i64 s.t, .int .i64 s.f, .bool true,u,v]
def OO (p:ao) (s:az) (y:iV) (es:List (List gP)):List (Nat×aX):=(11, .box 104 [.ptr 7001 0])::(66, .box 107 [.ptr 7001 0, .row 300 es.length 1, .nilsl, .nilsl])::(300,Jp es)::pb p s true y.1 y.2
structure yJ (p:ao) (q:bn) (s:az) (y:iV) (es:List (List gP)) (t:TS):Prop where
 x:XpI p q s y es
 l:es.length=y.1.length
 ok:zZ es
 t:Ov es t
def Nn (p:ao) (s:az) (l:List cS) (es:List (List gP)) (t:TS):List AV:=[.pd (Le p s .top (.sl d6 pG l)), .sl [] pM es, .sl 0 aD (eW es.length t.pt), .sl [] cU (t.inn.map bM)]
end
section
set_option maxRecDepth 100000
set_option maxHeartbeats 16000000
abbrev NT:=iV×List gP
def Ox (p:ao) (s:az) (y:iV) (es:List (List gP)):List (Nat×aX):=(11, .box 104 [.ptr 7001 0])::(66, .box 107 [.ptr 7001 0, .row 300 es.length 1, .nilsl, .nilsl])::(300,Jp es)::yI p s true y.1 y.2
def Np (p:ao) (s:az) (es:List (List gP)) (r:Loop) (z:NT):List (Nat×aX):=(5000, .obj (.loop r))::(17, .box 165 [.row 301 z.2.length 4])::(301,MV z.2)::Ox p s z.1 es
def Oy (a b:Nat):b8:=[(11, .old 11),(66, .old 66),(300, .old a),(7001, .old 7001),(7002, .old 7002),(7003, .old b)]
theorem Gc (p:ao) (q:bn) (s:az) (S:fV p q s):ae Tryz.prog 42 [.agg (bf p), .agg (eh q), .agg (b7 s)]
  (fun u=>(¬F7 p q s/\u= .tup [.val (.pointer none), .int .i64 4])\/(F7 p q s/\∃y es t,yJ p q s y es t/\u= .tup [.pd (Nn p s y.1 es t), .int .i64 0])):=by
 refine ae.endD ?_
 refine an.introY ab ac [] Tryz.func42 rfl (by decide) ?_
 conv=>whnf
 refine am rfl ?_
 conv=>whnf
 refine am rfl ?_
 conv=>whnf
 refine am rfl ?_
 conv=>whnf
 refine an.call [] [] 400 rfl trivial (aa) (KX p q s true S) ?_
 rintro u M (⟨hn,rfl⟩|⟨hi,rfl,rfl⟩)
 ·refine⟨[],[], .tup [.val (.pointer none), .int .i64 4],rfl,trivial,(aa),?_⟩
  conv=>whnf
  refine tI ?_
  conv=>whnf
  exact⟨[],5, .inl ⟨fun h=>hn h.1,rfl⟩⟩
 have g0:=(mH.inF (ex:=true) S (lP p q s) fun c hc=>(lQ S).1 hc).1
 have g1:=FX (ex:=true) S (lP p q s) fun c=>lQ S
 obtain⟨y0,hy0⟩:∃y0,y0=inF p true (lP p q s):=⟨_,rfl⟩
 rw[<-hy0] at g0 g1⊢
 refine⟨[(7101, .old 7001),(7102, .old 7002),(7103, .old 7003)],[(7101, .box 158 (Le p s (.mp 7102) (.row 7103 y0.1.length 10))),(7102,Jk y0.2),(7103,pL y0.1)], .tup [.ptr 7101 0, .int .i64 0],rfl,(aa),(aa),?_⟩
 conv=>whnf
 refine fI ?_
 conv=>whnf
 refine an.call [(7001, .old 7101),(7002, .old 7102),(7003, .old 7103)] (pb p s true y0.1 y0.2) 400 rfl (aa) (aa) (NS p q s true S y0 g0 g1) ?_
 rintro u M (⟨y,k1,k2,k3,⟨m,hm⟩,rfl,rfl⟩|⟨k1,rfl,y,rfl⟩)
 case inr=>
  refine⟨[(7101, .old 7001),(7102, .old 7002),(7103, .old 7003),(7104, .old 7004)],[(7101, .box 158 (Le p s (.mp 7102) (.row 7104 y.1.length 10))),(7102,Jk y.2),(7103, .dead),(7104,pL y.1)], .int .i64 4,rfl,(aa),rfl,?_⟩
  conv=>whnf
  refine tI ?_
  conv=>whnf
  exact⟨[],5, .inl ⟨fun h=>k1 h.2,rfl⟩⟩
 refine⟨[(7101, .old 7001),(7102, .old 7002),(7103, .old 7003),(7104, .old 7004)],[(7101, .box 158 (Le p s (.mp 7102) (.row 7104 y.1.length 10))),(7102,Jk y.2),(7103, .dead),(7104,pL y.1)], .int .i64 0,rfl,(aa),rfl,?_⟩
 have hC:=k2.clo (Nat.le_of_eq (ik _))
 have hcl:(th y.1).length<=4000:=by rw[ik];exact k3
 have hok:F7 p q s:=⟨hi,_,hC,hcl⟩
 have hrd:=fun i (hi:i<y.1.length)=>k1.og.rdy S hi
 have hle:∀{z:iV},mH p q s true z->z.1.length<=4000:=fun hz=>Nat.le_trans (Ld S hz hC) hcl
 rw[hy0] at hm
 obtain⟨l,f⟩:=y
 have hog:=k1.og
 clear g0 g1 hy0
 dsimp only at k3 hm hrd hog⊢
 conv=>whnf
 refine fI ?_
 conv=>whnf
 refine GQ Value.string (Value.int .i64) ?_
 conv=>whnf
 refine yU ?_
 conv=>whnf
 refine fm.loopF ab ac cX (fun z:Nat×iV=>z.1<=l.length/\Bv p q s l z.1 z.2) (fun z=>[(8, .top),(21, .top),(26, .top),(31, .top),(38, .top),(39, .top),(40, .top),(41, .top),(42, .top),(43, .top),(44, .sl d6 pG l),(46, .int .i64 (z.1:Int))]) (fun z=>(11, .box 104 [.ptr 7001 0])::pb p s true z.2.1 z.2.2) (fun z=>l.length-z.1) (0,([],fun _=>none)) ⟨Nat.zero_le _,Bv.zero l⟩ ?_
 conv=>whnf
 refine⟨aM.lendD [7104] 4 (aM.by_ [(11, .old 11),(7001, .old 40),(7002, .old 38),(7003, .nil 10)] _ 400 rfl (aa) (aa)),?_⟩
 rintro⟨k,y⟩ ⟨hk,hX⟩
 dsimp only at hk hX⊢
 conv=>whnf
 refine ah ?_ ?_<;>(intro g1;conv=>whnf)
 ·have hlt:k<l.length:=by omega
  have hyk:=hX.le
  refine nI ?_
  rw[tN]
  obtain⟨o,ho⟩:∃o,bu l k=o:=⟨_,rfl⟩
  have hr:=hrd k hlt
  have h1:=hX.step S hog hlt
  have h2:=fun h=>hX.skip (k:=k) h
  have ho':l.getD k d6=o:=ho
  rw[ho] at hr h1 h2
  rw[ho']
  conv=>whnf
  refine ah ?_ ?_<;>(intro g2;conv=>whnf)
  ·refine dC (xB q o.c S.hq hr.wide hr.plain.2) (fun _=>?_) (fun _=>?_)<;>(conv=>whnf)
   ·rename_i hre
    repeat' ((first|refine nI ?_|refine aI ?_|refine tI ?_|refine fI ?_|fail);conv=>whnf)
    refine⟨(k+1,y),?_,⟨by dsimp only;omega,h2 fun h=>h.2 hre⟩,by dsimp only;omega⟩
    exact aM.by_ [(11, .old 11),(7001, .old 7001),(7002, .old 7002),(7003, .old 7003)] _ 400 rfl (aa) (aa)
   ·rename_i hre
    refine an.call [(7001, .old 7001),(7002, .old 7002),(7003, .old 7003)] (pb p s true y.1 y.2) 400 rfl (aa) (aa) (Bh p s true y.1 y.2 o (by omega) hr.wide hr.plain) ?_
    rintro u M' ⟨rfl,rfl⟩
    refine⟨GC,yI p s true (co p true y.1 y.2 o) (i7 p true y.1 y.2 o), .int .i64 (jZ p true y.1 y.2 o),rfl,(aa),rfl,?_⟩
    conv=>whnf
    repeat' ((first|refine nI ?_|refine aI ?_|refine tI ?_|refine fI ?_|fail);conv=>whnf)
    refine⟨(k+1,(co p true y.1 y.2 o,i7 p true y.1 y.2 o)),?_,⟨by dsimp only;omega,h1 g2 hre⟩,by dsimp only;omega⟩
    dsimp only
    exact aM.by_ [(11, .old 11),(7001, .old 7001),(7002, .old 7002),(7003, .old 7004)] _ 400 rfl (aa) (aa)
  ·repeat' ((first|refine nI ?_|refine aI ?_|refine tI ?_|refine fI ?_|fail);conv=>whnf)
   refine⟨(k+1,y),?_,⟨by dsimp only;omega,h2 fun h=>g2 h.1⟩,by dsimp only;omega⟩
   exact aM.by_ [(11, .old 11),(7001, .old 7001),(7002, .old 7002),(7003, .old 7003)] _ 400 rfl (aa) (aa)
 obtain rfl:k=l.length:=by omega
 have hX:=hX.fin S hm
 refine yU ?_
 conv=>whnf
 refine fm.loopF ab ac cX (fun z:iV×List (List gP)=>XpI p q s z.1 z.2/\∀k,(z.2.getD k []).length<=1000000) (fun z=>[(15, .ptr 1000 0)]) (fun z=>(1000, .box 3 [.int .i64 (z.2.length:Int)])::OO p s z.1 z.2) (fun z=>4001-z.2.length) (y,[]) ⟨hX,fun k=>by simp⟩ ?_
 conv=>whnf
 refine⟨aM.by_ [(1000, .old 15),(11, .old 11),(66, .old 66),(300, .nil 1),(7001, .old 7001),(7002, .old 7002),(7003, .old 7003)] _ 400 rfl (aa) (aa),?_⟩
 clear hX hk g1 hm hog hrd
 rintro⟨y,es⟩ ⟨hX,hl⟩
 dsimp only at hX hl⊢
 have hy4:=hle hX.se
 have hel:=hX.le
 conv=>whnf
 refine dI ?_
 conv=>whnf
 refine ah ?_ ?_<;>(intro g1;conv=>whnf)
 ·have hlt:es.length<y.1.length:=by omega
  have hr:=hX.se.og.rdy S hlt
  have hrp:=hX.se.og.rp (ex:=true) S hlt
  obtain⟨o,ho⟩:∃o,bu y.1 es.length=o:=⟨_,rfl⟩
  have ho':y.1.getD es.length d6=o:=ho
  rw[ho] at hr hrp
  refine dI ?_
  conv=>whnf
  refine nI ?_
  rw[tN]
  conv=>whnf
  rw[ho']
  (refine oC (Km p s o.c hr.wide) ?_;conv=>whnf)
  (refine oP (Fm p s o.c) ?_;conv=>whnf)
  refine fm.lend [1000,16] 3 ?_
  conv=>whnf
  refine fm.subM cX (aM.by_ [(17, .old 17),(301, .nil 4),(11, .old 11),(66, .old 66),(300, .old 300),(7001, .old 7001),(7002, .old 7002),(7003, .old 7003),(7004, .old 7003)] ((17, .box 165 [.row 301 0 4])::(301,MV [])::Ox p s y es) 400 rfl (aa) (aa)) ?_
  refine fm.range 5000 [11,66,300,17,7001,7002,7003] (fun M'=>∃z:NT,F6 p q s z.1 es z.2 (d9 p s o.c p.rules.length)/\bu z.1.1 es.length=o/\z.2.length<=(d9 p s o.c p.rules.length).length/\∃r,M'=ai.ofL (Np p s es r z)) (fun _=>False) rfl rfl rfl rfl (fun l r h1 h2 h3 h4 h5=>?_) ?_ (fun _ hf=>hf.elim)
  ·rw[ai.ofL_cons]
   refine(Jd p s o.c hr (uf 5000 l r _) (D:=[5000,11,66,300,17,7001,7002,7003]) (fun pre (z:NT)=>F6 p q s z.1 es z.2 pre/\bu z.1.1 es.length=o/\z.2.length<=pre.length) (fun _=>False) (Np p s es r) (fun x=>⟨rfl,aa⟩) (fun _=>rfl) _ (fun pre z st hpre hz hst=>?_) (y,[]) ⟨hX.opn hlt,ho,Nat.le_refl _⟩).mono ?_
   ·obtain⟨hJ,hzo,hzl⟩:=hz
    have ha:bo o.c (aH p st) st:=hC.ok S hrp hst
    have hnr:=hr.next hst ha
    have hz4:=hle hJ.se
    have hJ0:=hJ
    rw[<-hzo] at hst ha hnr
    have hskip:=fun h=>hJ.skip (x:=st) h
    have hstp:=fun h=>hJ.step S hst ha h rfl
    have hzo2:∀o2:cS,bu (co p true z.1.1 z.1.2 o2) es.length=bu z.1.1 es.length:=fun o2=>by
     obtain⟨m2,e2⟩:=yo p true z.1.1 z.1.2 o2
     rw[e2];exact dl hJ.lt
    rw[hzo] at hst ha hnr hskip hstp hzo2
    refine YS.roundW ab ac h1 h2 h3 h4 h5 rfl ?_
    conv=>whnf
    refine⟨rfl,?_⟩
    refine fm.block ?_
    refine fm.seqC ab ac ?_
    conv=>whnf
    refine an.of_pure (n:=5) (FK p s o.c st hr hst) rfl ?_
    rintro _ (⟨_,rfl⟩|⟨hno,rfl⟩)
    case inr=>exact absurd ha hno
    conv=>whnf
    refine fm.seqC ab ac ?_
    conv=>whnf
    refine dC (xB q (cb o.c (aH p st) st) S.hq hnr.wide hnr.plain.2) (fun _=>?_) (fun _=>?_)<;>(conv=>whnf)
    ·rename_i hre
     refine fm.condF rfl ?_
     refine fm.ofY ab ac ?_
     conv=>whnf
     refine⟨rfl,Np p s es r z,aM.by_ ((5000, .old 5000)::(17, .old 17)::(301, .old 301)::(7004, .old 7004)::Oy 300 7003) _ 400 rfl (aa) trivial,z,rfl, .inl ⟨rfl,hskip hre,hzo,?_⟩⟩
     rw[List.length_append];omega
    ·rename_i hre
     have hJ2:=hstp hre
     refine fm.condT rfl ?_
     refine fm.lend [18,19] 3 ?_
     conv=>whnf
     refine fm.ofY ab ac ?_
     conv=>whnf
     refine sk [2,3,4,5,7,8] (by decide+kernel) ?_
     conv=>whnf
     repeat' first
      |(refine⟨rfl,Np p s es r ((co p true z.1.1 z.1.2 ⟨cb o.c (aH p st) st,(es.length:Int),st⟩,i7 p true z.1.1 z.1.2 ⟨cb o.c (aH p st) st,(es.length:Int),st⟩),z.2++[⟨jZ p true z.1.1 z.1.2 ⟨cb o.c (aH p st) st,(es.length:Int),st⟩,st⟩]),?_,_,rfl, .inl ⟨rfl,hJ2,hzo2 _,?_⟩⟩
        ·exact aM.by_ ((5000, .old 5000)::(17, .old 17)::(301, .old 110)::(7004, .old 7005)::Oy 300 7003) _ 400 rfl (aa) trivial
        ·rw[List.length_append,List.length_append];simp only[List.length_cons,List.length_nil];omega)
      |exact True.intro
      |(refine And.intro ?_ ?_<;>conv=>whnf)
      |(refine an.call [(7001, .old 7001),(7002, .old 7002),(7003, .old 7004)] (pb p s true z.1.1 z.1.2) 400 rfl (aa) (aa) (Bh p s true z.1.1 z.1.2 ⟨cb o.c (aH p st) st,(es.length:Int),st⟩ (by omega) hnr.wide hnr.plain) ?_
        rintro u M' ⟨rfl,rfl⟩
        refine⟨NN,NO p s true (co p true z.1.1 z.1.2 ⟨cb o.c (aH p st) st,(es.length:Int),st⟩) (i7 p true z.1.1 z.1.2 ⟨cb o.c (aH p st) st,(es.length:Int),st⟩), .int .i64 (jZ p true z.1.1 z.1.2 ⟨cb o.c (aH p st) st,(es.length:Int),st⟩),rfl,(aa),rfl,?_⟩
        conv=>whnf)
      |(refine cA gW Im [⟨jZ p true z.1.1 z.1.2 ⟨cb o.c (aH p st) st,(es.length:Int),st⟩,st⟩] rfl ?_;conv=>whnf)
      |(refine cB [⟨jZ p true z.1.1 z.1.2 ⟨cb o.c (aH p st) st,(es.length:Int),st⟩,st⟩] rfl lI ?_;conv=>whnf)
      |(refine iH ?_;conv=>whnf)
      |fail
   ·rintro u M ⟨z,rfl,⟨hJ,hzo,hzl⟩|hf⟩
    ·exact .inl ⟨rfl,z,hJ,hzo,hzl,r,rfl⟩
    ·exact hf.elim
  ·rintro M' ⟨z,hJ,hzo,hzl,r,rfl⟩
   have hs8:=Ic hr
   have hdn:XpI p q s z.1 (es++[z.2]):=hJ.done fun x hx=>by
    rw[hzo] at hx
    exact kI.2 hx
   have hl2:∀k,((es++[z.2]).getD k []).length<=1000000:=fun k=>by
    rw[m5]
    split
    ·exact hl k
    ·split
     ·omega
     ·simp
   have hz4:=hle hJ.se
   have hzt:=hJ.lt
   have hel2:(es++[z.2]).length=es.length+1:=by simp
   conv=>whnf
   refine sk [0,1,2,3,8,9] (by decide+kernel) ?_
   conv=>whnf
   repeat' first
    |(refine⟨(z.1,es++[z.2]),?_,⟨hdn,hl2⟩,by dsimp only;omega⟩
      dsimp only
      rw[show(((es++[z.2]).length:Nat):Int)=(es.length:Int)+1 by omega]
      exact aM.by_ [(1000, .old 15),(11, .old 11),(66, .old 66),(300, .old 118),(7001, .old 7001),(7002, .old 7002),(7003, .old 7004)] _ 400 rfl (aa) (aa))
    |exact True.intro
    |(refine And.intro ?_ ?_<;>conv=>whnf)
    |(refine cA [] pM [z.2] rfl ?_;conv=>whnf)
    |(refine cB [z.2] rfl lI ?_;conv=>whnf)
    |(refine iH ?_;conv=>whnf)
    |(refine aI ?_;conv=>whnf)
    |fail
 ·have hes:zZ es:=by
   refine⟨by omega,hl,fun i e he=>?_⟩
   have hi:i<es.length:=by
    refine Classical.byContradiction fun hn=>?_
    rw[gD,List.getElem?_eq_none (by omega)] at he
    cases he
   obtain⟨j,h1,h2,_⟩:=hX.ed i hi e he
   exact⟨j,h1,by omega⟩
  refine an.lendD [7001,7003,300] 4 ?_
  refine an.call [(210, .old 66)] (Nm (Le p s .top (.sl d6 pG y.1)) es) 400 rfl (aa) (aa) (Ir _ es hes) ?_
  rintro u M' ⟨rfl,t,hT,rfl⟩
  refine⟨[(66, .old 210),(214, .old 214),(215, .old 215)],[(66, .box 107 [.pd (Le p s .top (.sl d6 pG y.1)), .sl [] pM es, .row 214 es.length 1, .row 215 t.inn.length 1]),(214,bG (eW es.length t.pt)),(215,cJ (t.inn.map bM))], .tup [],rfl,(aa),trivial,?_⟩
  conv=>whnf
  exact⟨[66,214,215],5, .inr ⟨hok,y,es,t,⟨hX,by omega,hes,hT.fin⟩,rfl⟩⟩
end
end Go.Proofs.YtokjgegkhlkopaaGreatDoor
