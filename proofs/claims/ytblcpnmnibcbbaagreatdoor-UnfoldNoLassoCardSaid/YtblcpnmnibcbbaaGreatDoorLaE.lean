import Derived.Test.YtblcpnmnibcbbaaGreatDoorLaEa
set_option linter.unusedVariables false
set_option linter.unusedSimpArgs false
namespace Go.Proofs.YtblcpnmnibcbbaaGreatDoor
set_option maxRecDepth 100000
set_option maxHeartbeats 16000000
abbrev La:=mZ×List GL
def Lc (p:aq) (s:aB) (y:mZ) (es:List (List GL)):List (Nat×bj):=(11, .box 107 [.ptr 7001 0])::(66, .box 110 [.ptr 7001 0, .row 300 es.length 1, .nilsl, .nilsl])::(300,K3 es)::yd p s true y.1 y.2
def Lb (p:aq) (s:aB) (es:List (List GL)) (r:Loop) (z:La):List (Nat×bj):=(5000, .obj (.loop r))::(17, .box 180 [.row 301 z.2.length 4])::(301,K6 z.2)::Lc p s z.1 es
def Ld (a b:Nat):c9:=[(11, .old 11),(66, .old 66),(300, .old a),(7001, .old 7001),(7002, .old 7002),(7003, .old b)]
theorem K4 (p:aq) (q:bO) (s:aB) (S:jI p q s):aa Tryz.prog 50 [.agg (bc p), .agg (gb q), .agg (bW s)]
  (fun u=>(¬IL p q s/\u= .tup [.val (.pointer none), .int .i64 4])\/(IL p q s/\∃y es t,K8 p q s y es t/\u= .tup [.pd (K9 p s y.1 es t), .int .i64 0])):=by
 refine aa.endD ?_
 refine ar.introY ab ac [] Tryz.func50 rfl (by decide) ?_
 conv=>whnf
 refine am rfl ?_
 conv=>whnf
 refine am rfl ?_
 conv=>whnf
 refine am rfl ?_
 conv=>whnf
 refine ar.call [] [] 400 rfl trivial (ai) (I8 p q s true S) ?_
 rintro u M (⟨hn,rfl⟩|⟨hi,rfl,rfl⟩)
 ·refine⟨[],[], .tup [.val (.pointer none), .int .i64 4],rfl,trivial,(ai),?_⟩
  conv=>whnf
  refine tI ?_
  conv=>whnf
  exact⟨[],5, .inl ⟨fun h=>hn h.1,rfl⟩⟩
 have g0:=(oh.inF (ex:=true) S (qY p q s) fun c hc=>(C4 S).1 hc).1
 have g1:=Ig (ex:=true) S (qY p q s) fun c=>C4 S
 obtain⟨y0,hy0⟩:∃y0,y0=inF p true (qY p q s):=⟨_,rfl⟩
 rw[<-hy0] at g0 g1⊢
 refine⟨[(7101, .old 7001),(7102, .old 7002),(7103, .old 7003)],[(7101, .box 176 (K5 p s (.mp 7102) (.row 7103 y0.1.length 10))),(7102,Ib y0.2),(7103,vM y0.1)], .tup [.ptr 7101 0, .int .i64 0],rfl,(ai),(ai),?_⟩
 conv=>whnf
 refine fI ?_
 conv=>whnf
 refine ar.call [(7001, .old 7101),(7002, .old 7102),(7003, .old 7103)] (qD p s true y0.1 y0.2) 400 rfl (ai) (ai) (KX p q s true S y0 g0 g1) ?_
 rintro u M (⟨y,k1,k2,k3,⟨m,hm⟩,rfl,rfl⟩|⟨k1,rfl,y,rfl⟩)
 case inr=>
  refine⟨[(7101, .old 7001),(7102, .old 7002),(7103, .old 7003),(7104, .old 7004)],[(7101, .box 176 (K5 p s (.mp 7102) (.row 7104 y.1.length 10))),(7102,Ib y.2),(7103, .dead),(7104,vM y.1)], .int .i64 4,rfl,(ai),rfl,?_⟩
  conv=>whnf
  refine tI ?_
  conv=>whnf
  exact⟨[],5, .inl ⟨fun h=>k1 h.2,rfl⟩⟩
 refine⟨[(7101, .old 7001),(7102, .old 7002),(7103, .old 7003),(7104, .old 7004)],[(7101, .box 176 (K5 p s (.mp 7102) (.row 7104 y.1.length 10))),(7102,Ib y.2),(7103, .dead),(7104,vM y.1)], .int .i64 0,rfl,(ai),rfl,?_⟩
 have hC:=k2.clo (Nat.le_of_eq (mT _))
 have hcl:(tE y.1).length<=4000:=by rw[mT];exact k3
 have hok:IL p q s:=⟨hi,_,hC,hcl⟩
 have hrd:=fun i (hi:i<y.1.length)=>k1.og.rdy S hi
 have hle:∀{z:mZ},oh p q s true z->z.1.length<=4000:=fun hz=>Nat.le_trans (KZ S hz hC) hcl
 rw[hy0] at hm
 obtain⟨l,f⟩:=y
 have hog:=k1.og
 clear g0 g1 hy0
 dsimp only at k3 hm hrd hog⊢
 conv=>whnf
 refine fI ?_
 conv=>whnf
 refine Hb Value.string (Value.int .i64) ?_
 conv=>whnf
 refine Dx ?_
 conv=>whnf
 refine nE.loopF ab ac i7 (fun z:Nat×mZ=>z.1<=l.length/\KY p q s l z.1 z.2) (fun z=>[(8, .top),(21, .top),(26, .top),(31, .top),(38, .top),(39, .top),(40, .top),(41, .top),(42, .top),(43, .top),(44, .sl hZ Cu l),(46, .int .i64 (z.1:Int))]) (fun z=>(11, .box 107 [.ptr 7001 0])::qD p s true z.2.1 z.2.2) (fun z=>l.length-z.1) (0,([],fun _=>none)) ⟨Nat.zero_le _,KY.zero l⟩ ?_
 conv=>whnf
 refine⟨bE.lendD [7104] 4 (bE.by_ [(11, .old 11),(7001, .old 40),(7002, .old 38),(7003, .nil 10)] _ 400 rfl (ai) (ai)),?_⟩
 rintro⟨k,y⟩ ⟨hk,hX⟩
 dsimp only at hk hX⊢
 conv=>whnf
 refine ag ?_ ?_<;>(intro g1;conv=>whnf)
 ·have hlt:k<l.length:=by omega
  have hyk:=hX.le
  refine nI ?_
  rw[tN]
  obtain⟨o,ho⟩:∃o,ce l k=o:=⟨_,rfl⟩
  have hr:=hrd k hlt
  have h1:=hX.step S hog hlt
  have h2:=fun h=>hX.skip (k:=k) h
  have ho':l.getD k hZ=o:=ho
  rw[ho] at hr h1 h2
  rw[ho']
  conv=>whnf
  refine ag ?_ ?_<;>(intro g2;conv=>whnf)
  ·refine dC (BL q o.c S.hq hr.wide hr.plain.2) (fun _=>?_) (fun _=>?_)<;>(conv=>whnf)
   ·rename_i hre
    repeat' ((first|refine nI ?_|refine aI ?_|refine tI ?_|refine fI ?_|fail);conv=>whnf)
    refine⟨(k+1,y),?_,⟨by dsimp only;omega,h2 fun h=>h.2 hre⟩,by dsimp only;omega⟩
    exact bE.by_ [(11, .old 11),(7001, .old 7001),(7002, .old 7002),(7003, .old 7003)] _ 400 rfl (ai) (ai)
   ·rename_i hre
    refine ar.call [(7001, .old 7001),(7002, .old 7002),(7003, .old 7003)] (qD p s true y.1 y.2) 400 rfl (ai) (ai) (Fw p s true y.1 y.2 o (by omega) hr.wide hr.plain) ?_
    rintro u M' ⟨rfl,rfl⟩
    refine⟨EM,yd p s true (de p true y.1 y.2 o) (kJ p true y.1 y.2 o), .int .i64 (lM p true y.1 y.2 o),rfl,(ai),rfl,?_⟩
    conv=>whnf
    repeat' ((first|refine nI ?_|refine aI ?_|refine tI ?_|refine fI ?_|fail);conv=>whnf)
    refine⟨(k+1,(de p true y.1 y.2 o,kJ p true y.1 y.2 o)),?_,⟨by dsimp only;omega,h1 g2 hre⟩,by dsimp only;omega⟩
    dsimp only
    exact bE.by_ [(11, .old 11),(7001, .old 7001),(7002, .old 7002),(7003, .old 7004)] _ 400 rfl (ai) (ai)
  ·repeat' ((first|refine nI ?_|refine aI ?_|refine tI ?_|refine fI ?_|fail);conv=>whnf)
   refine⟨(k+1,y),?_,⟨by dsimp only;omega,h2 fun h=>g2 h.1⟩,by dsimp only;omega⟩
   exact bE.by_ [(11, .old 11),(7001, .old 7001),(7002, .old 7002),(7003, .old 7003)] _ 400 rfl (ai) (ai)
 obtain rfl:k=l.length:=by omega
 have hX:=hX.fin S hm
 refine Dx ?_
 conv=>whnf
 refine nE.loopF ab ac i7 (fun z:mZ×List (List GL)=>XpI p q s z.1 z.2/\∀k,(z.2.getD k []).length<=1000000) (fun z=>[(15, .ptr 1000 0)]) (fun z=>(1000, .box 3 [.int .i64 (z.2.length:Int)])::K7 p s z.1 z.2) (fun z=>4001-z.2.length) (y,[]) ⟨hX,fun k=>by simp⟩ ?_
 conv=>whnf
 refine⟨bE.by_ [(1000, .old 15),(11, .old 11),(66, .old 66),(300, .nil 1),(7001, .old 7001),(7002, .old 7002),(7003, .old 7003)] _ 400 rfl (ai) (ai),?_⟩
 clear hX hk g1 hm hog hrd
 rintro⟨y,es⟩ ⟨hX,hl⟩
 dsimp only at hX hl⊢
 have hy4:=hle hX.se
 have hel:=hX.le
 conv=>whnf
 refine dI ?_
 conv=>whnf
 refine ag ?_ ?_<;>(intro g1;conv=>whnf)
 ·have hlt:es.length<y.1.length:=by omega
  have hr:=hX.se.og.rdy S hlt
  have hrp:=hX.se.og.rp (ex:=true) S hlt
  obtain⟨o,ho⟩:∃o,ce y.1 es.length=o:=⟨_,rfl⟩
  have ho':y.1.getD es.length hZ=o:=ho
  rw[ho] at hr hrp
  refine dI ?_
  conv=>whnf
  refine nI ?_
  rw[tN]
  conv=>whnf
  rw[ho']
  (refine oC (F6 p s o.c hr.wide) ?_;conv=>whnf)
  (refine oP (Gg p s o.c) ?_;conv=>whnf)
  refine nE.lend [1000,16] 3 ?_
  conv=>whnf
  refine nE.subM i7 (bE.by_ [(17, .old 17),(301, .nil 4),(11, .old 11),(66, .old 66),(300, .old 300),(7001, .old 7001),(7002, .old 7002),(7003, .old 7003),(7004, .old 7003)] ((17, .box 180 [.row 301 0 4])::(301,K6 [])::Lc p s y es) 400 rfl (ai) (ai)) ?_
  refine nE.range 5000 [11,66,300,17,7001,7002,7003] (fun M'=>∃z:La,E0 p q s z.1 es z.2 (fA p s o.c p.rules.length)/\ce z.1.1 es.length=o/\z.2.length<=(fA p s o.c p.rules.length).length/\∃r,M'=ah.ofL (Lb p s es r z)) (fun _=>False) rfl rfl rfl rfl (fun l r h1 h2 h3 h4 h5=>?_) ?_ (fun _ hf=>hf.elim)
  ·rw[ah.ofL_cons]
   refine(HU p s o.c hr (zD 5000 l r _) (D:=[5000,11,66,300,17,7001,7002,7003]) (fun pre (z:La)=>E0 p q s z.1 es z.2 pre/\ce z.1.1 es.length=o/\z.2.length<=pre.length) (fun _=>False) (Lb p s es r) (fun x=>⟨rfl,ai⟩) (fun _=>rfl) _ (fun pre z st hpre hz hst=>?_) (y,[]) ⟨hX.opn hlt,ho,Nat.le_refl _⟩).mono ?_
   ·obtain⟨hJ,hzo,hzl⟩:=hz
    have ha:bh o.c (aO p st) st:=hC.ok S hrp hst
    have hnr:=hr.next hst ha
    have hz4:=hle hJ.se
    have hJ0:=hJ
    rw[<-hzo] at hst ha hnr
    have hskip:=fun h=>hJ.skip (x:=st) h
    have hstp:=fun h=>hJ.step S hst ha h rfl
    have hzo2:∀o2:dy,ce (de p true z.1.1 z.1.2 o2) es.length=ce z.1.1 es.length:=fun o2=>by
     obtain⟨m2,e2⟩:=KV p true z.1.1 z.1.2 o2
     rw[e2];exact dJ hJ.lt
    rw[hzo] at hst ha hnr hskip hstp hzo2
    refine YS.roundW ab ac h1 h2 h3 h4 h5 rfl ?_
    conv=>whnf
    refine⟨rfl,?_⟩
    refine nE.block ?_
    refine nE.seqC ab ac ?_
    conv=>whnf
    refine ar.of_pure (n:=5) (GD p s o.c st hr hst) rfl ?_
    rintro _ (⟨_,rfl⟩|⟨hno,rfl⟩)
    case inr=>exact absurd ha hno
    conv=>whnf
    refine nE.seqC ab ac ?_
    conv=>whnf
    refine dC (BL q (cp o.c (aO p st) st) S.hq hnr.wide hnr.plain.2) (fun _=>?_) (fun _=>?_)<;>(conv=>whnf)
    ·rename_i hre
     refine nE.condF rfl ?_
     refine nE.ofY ab ac ?_
     conv=>whnf
     refine⟨rfl,Lb p s es r z,bE.by_ ((5000, .old 5000)::(17, .old 17)::(301, .old 301)::(7004, .old 7004)::Ld 300 7003) _ 400 rfl (ai) trivial,z,rfl, .inl ⟨rfl,hskip hre,hzo,?_⟩⟩
     rw[List.length_append];omega
    ·rename_i hre
     have hJ2:=hstp hre
     refine nE.condT rfl ?_
     refine nE.lend [18,19] 3 ?_
     conv=>whnf
     refine nE.ofY ab ac ?_
     conv=>whnf
     refine I7 [2,3,4,5,7,8] (by decide+kernel) ?_
     conv=>whnf
     repeat' first
      |(refine⟨rfl,Lb p s es r ((de p true z.1.1 z.1.2 ⟨cp o.c (aO p st) st,(es.length:Int),st⟩,kJ p true z.1.1 z.1.2 ⟨cp o.c (aO p st) st,(es.length:Int),st⟩),z.2++[⟨lM p true z.1.1 z.1.2 ⟨cp o.c (aO p st) st,(es.length:Int),st⟩,st⟩]),?_,_,rfl, .inl ⟨rfl,hJ2,hzo2 _,?_⟩⟩
        ·exact bE.by_ ((5000, .old 5000)::(17, .old 17)::(301, .old 110)::(7004, .old 7005)::Ld 300 7003) _ 400 rfl (ai) trivial
        ·rw[List.length_append,List.length_append];simp only[List.length_cons,List.length_nil];omega)
      |exact True.intro
      |(refine And.intro ?_ ?_<;>conv=>whnf)
      |(refine ar.call [(7001, .old 7001),(7002, .old 7002),(7003, .old 7004)] (qD p s true z.1.1 z.1.2) 400 rfl (ai) (ai) (Fw p s true z.1.1 z.1.2 ⟨cp o.c (aO p st) st,(es.length:Int),st⟩ (by omega) hnr.wide hnr.plain) ?_
        rintro u M' ⟨rfl,rfl⟩
        refine⟨Jv,Jw p s true (de p true z.1.1 z.1.2 ⟨cp o.c (aO p st) st,(es.length:Int),st⟩) (kJ p true z.1.1 z.1.2 ⟨cp o.c (aO p st) st,(es.length:Int),st⟩), .int .i64 (lM p true z.1.1 z.1.2 ⟨cp o.c (aO p st) st,(es.length:Int),st⟩),rfl,(ai),rfl,?_⟩
        conv=>whnf)
      |(refine c8 Kb Kt [⟨lM p true z.1.1 z.1.2 ⟨cp o.c (aO p st) st,(es.length:Int),st⟩,st⟩] rfl ?_;conv=>whnf)
      |(refine eC [⟨lM p true z.1.1 z.1.2 ⟨cp o.c (aO p st) st,(es.length:Int),st⟩,st⟩] rfl lI ?_;conv=>whnf)
      |(refine jN ?_;conv=>whnf)
      |fail
   ·rintro u M ⟨z,rfl,⟨hJ,hzo,hzl⟩|hf⟩
    ·exact .inl ⟨rfl,z,hJ,hzo,hzl,r,rfl⟩
    ·exact hf.elim
  ·rintro M' ⟨z,hJ,hzo,hzl,r,rfl⟩
   have hs8:=Iy hr
   have hdn:XpI p q s z.1 (es++[z.2]):=hJ.done fun x hx=>by
    rw[hzo] at hx
    exact tg.2 hx
   have hl2:∀k,((es++[z.2]).getD k []).length<=1000000:=fun k=>by
    rw[qA]
    split
    ·exact hl k
    ·split
     ·omega
     ·simp
   have hz4:=hle hJ.se
   have hzt:=hJ.lt
   have hel2:(es++[z.2]).length=es.length+1:=by simp
   conv=>whnf
   refine I7 [0,1,2,3,8,9] (by decide+kernel) ?_
   conv=>whnf
   repeat' first
    |(refine⟨(z.1,es++[z.2]),?_,⟨hdn,hl2⟩,by dsimp only;omega⟩
      dsimp only
      rw[show(((es++[z.2]).length:Nat):Int)=(es.length:Int)+1 by omega]
      exact bE.by_ [(1000, .old 15),(11, .old 11),(66, .old 66),(300, .old 118),(7001, .old 7001),(7002, .old 7002),(7003, .old 7004)] _ 400 rfl (ai) (ai))
    |exact True.intro
    |(refine And.intro ?_ ?_<;>conv=>whnf)
    |(refine c8 [] Kq [z.2] rfl ?_;conv=>whnf)
    |(refine eC [z.2] rfl lI ?_;conv=>whnf)
    |(refine jN ?_;conv=>whnf)
    |(refine aI ?_;conv=>whnf)
    |fail
 ·have hes:Kj es:=by
   refine⟨by omega,hl,fun i e he=>?_⟩
   have hi:i<es.length:=by
    refine Classical.byContradiction fun hn=>?_
    rw[gD,List.getElem?_eq_none (by omega)] at he
    cases he
   obtain⟨j,h1,h2,_⟩:=hX.ed i hi e he
   exact⟨j,h1,by omega⟩
  refine ar.lendD [7001,7003,300] 4 ?_
  refine ar.call [(210, .old 66)] (KO (K5 p s .top (.sl hZ Cu y.1)) es) 400 rfl (ai) (ai) (KN _ es hes) ?_
  rintro u M' ⟨rfl,t,hT,rfl⟩
  refine⟨[(66, .old 210),(214, .old 214),(215, .old 215)],[(66, .box 110 [.pd (K5 p s .top (.sl hZ Cu y.1)), .sl [] Kq es, .row 214 es.length 1, .row 215 t.inn.length 1]),(214,cH (vU es.length t.pt)),(215,cX (t.inn.map JN))], .tup [],rfl,(ai),trivial,?_⟩
  conv=>whnf
  exact⟨[66,214,215],5, .inr ⟨hok,y,es,t,⟨hX,by omega,hes,hT.fin⟩,rfl⟩⟩
end Go.Proofs.YtblcpnmnibcbbaaGreatDoor
