import Derived.Test.YtekmminpfhacpaaGreatDoorPA
import Derived.Test.YtekmminpfhacpaaGreatDoorW1
import Derived.Test.YtekmminpfhacpaaGreatDoorX0
import Derived.Test.YtekmminpfhacpaaGreatDoorGA
import Derived.Test.YtekmminpfhacpaaGreatDoorW3
set_option linter.unusedVariables false
set_option linter.unusedSimpArgs false
namespace Go.Proofs.YtekmminpfhacpaaGreatDoor
set_option maxRecDepth 100000
set_option maxHeartbeats 16000000
theorem L4 {P:Program} {tt:TT} {ops:List Oper} {fr:List AV} {M:aj} {K:List AV->aj->Prop} (qs:List Nat) (hqs:qs.all (CC ops)=true) (h:nN P tt none ops qs K ops.length [] fr M):fG P tt ops fr M K:=
 JB (by rw[rH (.inl rfl) hqs] at h;exact h)
noncomputable abbrev L5 (p:an) (q:aG) (sch:List Int) (vars:List Vb) (co:Co):List (Nat×cp):=
 [(220, .box 151 [.ptr 200 0]),(221, .box 24 [.row 230 vars.length 1]),(230, .row 3 0 ao (vars.map co))]++cG p q sch vars []
theorem countP (p:an) (q:aG) (sch:List Int) (vars:List Vb) (co:Co) (hn:vars.Nodup) (hv:vars.length<=1000000) (b:Bool) (k1 k2 seg idx kind:Int) (hkk:(if b then k1 else k2)=kind) (hk:k1=3/\k2=4\/k1=5/\k2=6) (hin:(⟨kind,seg,idx⟩:Vb)∈vars) (hb:pR 1152921504606846976 co):
  am Tryz.prog 84 [.bool b, .int .i64 k1, .int .i64 k2, .int .i64 seg, .int .i64 idx, .ptr 221 0, .ptr 220 0] (aj.ofL (L5 p q sch vars co))
   (fun u M=>u= .tup []/\M=aj.ofL (L5 p q sch vars (cR co ⟨kind,seg,idx⟩ 1))):=by
 have hs:∀y,kK vars kind vars.length (seg,idx)=some y->∃m:Nat,y=m/\m<vars.length/\(vars.map co).set m ((vars.map co).getD m 0+1)=vars.map (cR co ⟨kind,seg,idx⟩ 1):=by
  intro y h
  obtain⟨m,rfl,hm,e⟩:=iA h
  refine⟨m,rfl,hm,?_⟩
  rw[g9 co hm,Ap co 1 hn hm,e]
 have hno:kK vars kind vars.length (seg,idx)≠none:=fun h=>oY h hin
 have hg:∀m,m<vars.length->-1152921504606846976<=(vars.map co).getD m 0/\(vars.map co).getD m 0<=1152921504606846976:=fun m hm=>by rw[g9 co hm];exact hb _
 have hl:(vars.map co).length=vars.length:=List.length_map ..
 refine am.idn rfl (aa) ?_
 generalize hA:vars.map co=A at hs hg hl
 generalize hB:vars.map (cR co ⟨kind,seg,idx⟩ 1)=B at hs
 unfold L5
 rw[hA,hB]
 clear hA hB hb
 cases b<;>rcases hk with ⟨rfl,rfl⟩|⟨rfl,rfl⟩
 all_goals
  obtain rfl:=hkk
  refine am.intro ae ag ([(220, .box 151 [.ptr 200 0]),(221, .box 24 [.row 230 vars.length 1]),(230, .row 3 0 ao A)]++cG p q sch vars []) Tryz.func84 rfl (by decide) ?_
  conv=>whnf
  refine L4 [2,3,4,5,7,8,9,11,13,14] (by decide+kernel) ?_
  conv=>whnf
  repeat' first
   |exact True.intro
   |(refine And.intro ?_ ?_<;>conv=>whnf)
   |(refine bX (by decide) ?_;conv=>whnf)
   |(refine wk iH (seg,idx) rfl (fun y hy=>?_) (fun hy=>absurd hy hno);obtain⟨m,rfl,hm,e⟩:=hs y hy;have h1:=hg m hm;subst e;conv=>whnf)
   |(refine nI ?_;conv=>whnf)
   |(refine Mc trivial (by rw[tN];omega) ?_;conv=>whnf)
   |(refine aw (A.getD (m:Int).toNat 0+1) rfl ?_;conv=>whnf)
   |exact rfl
   |fail
theorem xI (p:an) (q:aG) (s:aJ) (r:Rn) (hp:iO p) (hq:pN q) (hc:AN r.start) (hl:r.steps.length<=140737488355328):
  ab Tryz.prog 25 [.agg (aR p), .agg (df q), .agg (cq s), .agg (mA r)] (fun u=>u=I6 (Mj p q s r)):=by
 refine ab.pj ?_
 have he:=Mj.eq_1 p q s r
 generalize Mj p q s r=A at he
 have hL:=zw p q s hp hq
 refine ab.intro ae ag Tryz.func25 rfl (by decide) ?_;(conv=>whnf)
 refine al rfl ?_
 conv=>whnf
 refine al rfl ?_
 conv=>whnf
 refine al rfl ?_
 conv=>whnf
 refine al rfl ?_
 conv=>whnf
 by_cases h:kN p q s=0
 rotate_left
 ·rw[if_pos h] at he
  rw[if_neg h] at hL
  subst he
  (refine oP (hL) ?_;conv=>whnf)
  refine cC h ?_
  conv=>whnf
  exact⟨.inr ⟨rfl,rfl,rfl⟩,rfl⟩
 rw[if_neg (fun y=>y h)] at he
 rw[if_pos h] at hL
 obtain⟨h1,ht,hz,hz2⟩:=Gy h
 have hv:=(aF h1).vld
 have hR:=qm p s r hp hv ht hc hl
 (refine oP (hL) ?_;conv=>whnf)
 refine fI ?_
 conv=>whnf
 by_cases hvc:VC p s r.start
 rotate_left
 ·rw[if_pos (fun y=>hvc y.1)] at he
  have eT:Ha p s r=vS [] 10:=by unfold Ha;rw[if_neg (fun y=>y hz),if_neg hvc]
  rw[eT] at hR
  unfold vS at hR
  subst he
  (refine oP (hR) ?_;conv=>whnf)
  refine cC (by decide) ?_
  conv=>whnf
  exact⟨.inr ⟨rfl,rfl,rfl⟩,rfl⟩
 have eT:Ha p s r=rp p s [r.start] r.start r.steps:=by unfold Ha;rw[if_neg (fun y=>y hz),if_pos hvc]
 by_cases hro:ct p s r.start r.steps
 rotate_left
 ·rw[if_pos (fun y=>hro y.2.1)] at he
  obtain⟨e,e0,e1⟩:=A0 (acc:=[r.start]) hro
  rw[eT,e1] at hR
  unfold vS at hR
  subst he
  (refine oP (hR) ?_;conv=>whnf)
  refine cC e0 ?_
  conv=>whnf
  exact⟨.inr ⟨rfl,rfl,rfl⟩,rfl⟩
 have rd:=zo (AO hz hvc)
 have hI:=Gx p q s r.start h1 ht rd
 rw[eT,xC hro] at hR
 have eR:[r.start]++tr p r.start r.steps=cY p r.start r.steps:=rfl
 rw[eR] at hR
 unfold vS at hR
 by_cases hin:CM p q s r.start
 rotate_left
 ·rw[if_pos (fun y=>hin y.2.2)] at he
  rw[decide_eq_false hin] at hI
  subst he
  (refine oP (hR) ?_;conv=>whnf)
  refine fI ?_
  conv=>whnf
  (refine oP (hI) ?_;conv=>whnf)
  exact⟨.inr ⟨rfl,rfl,rfl⟩,rfl⟩
 have hk:=JX h ⟨hvc,hro,hin⟩
 rw[if_neg (fun y=>y ⟨hvc,hro,hin⟩)] at he
 rw[decide_eq_true hin] at hI
 (refine oP (hR) ?_;conv=>whnf)
 refine fI ?_
 conv=>whnf
 (refine oP (hI) ?_;conv=>whnf)
 have hlt:=fM p r.start r.steps
 have hrdy:=jb rd hro
 have hlen:=hk.len
 have hthr:=(aL hv).thr
 have hsch:=hk.sch
 have hnd:=bu h1 (d8 p s r).1
 have hvl:=eK h1 hsch
 have hmem1:∀i,i<r.start.states.length->fV r.start i∈ak p q (d8 p s r).1:=fun i hi=>tH h1 ht rd hin hi
 have hmem2:∀k,k<r.steps.length->lJ r.start r.steps (d8 p s r).2 k∈ak p q (d8 p s r).1:=fun k hk=>xH ht rd hro hk
 have hseg:=hk.seg
 have hsl:=c5 hsch
 have hsta:=hk.sta
 have hbeg:=Ll p q (d8 p s r).1 h1 hsch fun n hn=>pf (aB (l:=ak p q (d8 p s r).1) dU hn)
 have hGe:d8 p s r=lH p s (cY p r.start r.steps) [] []:=rfl
 have hgl:∀(l:List az) (a b:List Int),a.Nodup->(∀x∈a,0<=x/\x<((ax p.rules).length:Int))->a.length<=3:=fun l a b h1 h2=>by
  have:=lY h1 h2
  omega
 refine aQ.loopF ae ag (fun z:Nat×List Int×List Int=>z.1<=r.steps.length+1/\z.2.2.length=z.1/\(z.2.1.Nodup/\∀x∈z.2.1,0<=x/\x<((ax p.rules).length:Int))/\d8 p s r=lH p s ((cY p r.start r.steps).drop z.1) z.2.1 z.2.2) (fun z=>[(55, .int .i64 (z.1:Int)),(14, .row 1000 z.2.1.length 1),(15, .row 1001 z.2.2.length 1)]) (fun z=>[(1000, .row 3 0 ao z.2.1),(1001, .row 3 0 ao z.2.2)]) (fun z=>r.steps.length+1-z.1) (0,[],[]) ⟨Nat.zero_le _,rfl,⟨by simp,fun x hx=>by cases hx⟩,rfl⟩ ?_;conv=>whnf
 refine⟨bn.by_ [(1000, .nil 1),(1001, .nil 1)] _ 400 rfl (aa) (aa),?_⟩
 rintro⟨k,sc,sg⟩ ⟨k1,k2,⟨k3,k4⟩,k5⟩
 dsimp only at k1 k2 k3 k4 k5
 have hs3:=hgl [] sc sg k3 k4
 conv=>whnf
 refine ah ?_ ?_<;>(intro g1;conv=>whnf)
 ·have hkl:k<(cY p r.start r.steps).length:=by omega
  have hrk:=hrdy k (by omega)
  rw[List.drop_eq_getElem_cons hkl,<-av aU hkl] at k5
  have hU:=CJ p s ((cY p r.start r.steps).getD k aU) hp hrk
  refine nI ?_
  rw[tN]
  conv=>whnf
  have hUl:=rU p s ((cY p r.start r.steps).getD k aU) (ax p.rules).length
  have hUm:∀x∈cU p s ((cY p r.start r.steps).getD k aU) (ax p.rules).length,0<=x/\x<((ax p.rules).length:Int):=fun x hx=>by
   obtain⟨i,hi,rfl,_⟩:=(lD p s _).1 hx
   omega
  have k6:d8 p s r=lH p s ((cY p r.start r.steps).drop (k+1)) (dc sc (cU p s ((cY p r.start r.steps).getD k aU) (ax p.rules).length)) (sg++[((dc sc (cU p s ((cY p r.start r.steps).getD k aU) (ax p.rules).length)).length:Int)]):=k5
  clear k5
  generalize (cY p r.start r.steps).getD k aU=ck at*
  generalize cU p s ck (ax p.rules).length=now at*
  (refine oP (hU) ?_;conv=>whnf)
  refine aQ.loopF ae ag (fun y:Nat×List Int=>y.1<=now.length/\(y.2.Nodup/\∀x∈y.2,0<=x/\x<((ax p.rules).length:Int))/\dc sc now=dc y.2 (now.drop y.1)) (fun y=>[(64, .int .i64 (y.1:Int)),(14, .row 1000 y.2.length 1)]) (fun y=>[(17, .box 61 (aW ck)),(1000, .row 3 0 ao y.2),(1001, .row 3 0 ao sg)]) (fun y=>now.length-y.1) (0,sc) ⟨Nat.zero_le _,⟨k3,k4⟩,rfl⟩ ?_;conv=>whnf
  refine⟨bn.by_ [(17, .old 17),(1000, .old 1000),(1001, .old 1001)] _ 400 rfl (aa) (aa),?_⟩
  rintro⟨m,sd⟩ ⟨m1,⟨m2,m3⟩,m4⟩
  dsimp only at m1 m2 m3 m4
  have hd3:=hgl [] sd sg m2 m3
  conv=>whnf
  refine ah ?_ ?_<;>(intro g2;conv=>whnf)
  ·have hml:m<now.length:=by omega
   refine nI ?_
   rw[tN]
   conv=>whnf
   have hgm:=hUm _ (aB (0:Int) hml)
   rw[List.drop_eq_getElem_cons hml,<-av 0 hml] at m4
   generalize now.getD m 0=g at*
   have hC:=be sd g (by omega)
   by_cases hg:g∈sd
   ·rw[decide_eq_true hg] at hC
    rw[dc,if_pos hg] at m4
    (refine am.borrow (n:=5) (hC) rfl (by rintro _ rfl;rfl) ?_;rintro _ rfl;conv=>whnf)
    repeat' ((first|refine nI ?_|refine aI ?_|refine fb trivial (by omega) ?_|refine fv trivial (by omega) ?_|refine dI ?_|refine dR ?_|refine dP ?_|refine al rfl ?_|refine pI _ rfl ?_|refine aw _ rfl ?_|refine tI ?_|refine fI ?_|refine ah (fun _=>?_) (fun _=>?_))<;>conv=>whnf)
    exact⟨(m+1,sd),bn.by_ [(17, .old 17),(1000, .old 1000),(1001, .old 1001)] _ 400 rfl (aa) (aa),⟨by dsimp only;omega,⟨m2,m3⟩,m4⟩,by dsimp only;omega⟩
   ·rw[decide_eq_false hg] at hC
    rw[dc,if_neg hg] at m4
    (refine am.borrow (n:=5) (hC) rfl (by rintro _ rfl;rfl) ?_;rintro _ rfl;conv=>whnf)
    refine cz [g] rfl lI ?_
    conv=>whnf
    repeat' ((first|refine nI ?_|refine aI ?_|refine fb trivial (by omega) ?_|refine fv trivial (by omega) ?_|refine dI ?_|refine dR ?_|refine dP ?_|refine al rfl ?_|refine pI _ rfl ?_|refine aw _ rfl ?_|refine tI ?_|refine fI ?_|refine ah (fun _=>?_) (fun _=>?_))<;>conv=>whnf)
    refine⟨(m+1,sd++[g]),bn.by_ [(17, .old 17),(1000, .old 75),(1001, .old 1001)] _ 400 rfl (aa) (aa),⟨by dsimp only;omega,⟨?_,fun x hx=>?_⟩,m4⟩,by dsimp only;omega⟩
    ·dsimp only
     rw[List.nodup_append]
     refine⟨m2,by simp,fun a ha b hb e=>?_⟩
     rw[List.mem_singleton] at hb
     subst hb;subst e
     exact hg ha
    ·rcases List.mem_append.1 hx with hx|hx
     ·exact m3 x hx
     ·rw[List.mem_singleton] at hx
      subst hx
      exact hgm
  ·obtain rfl:m=now.length:=by omega
   rw[List.drop_length,dc] at m4
   rw[m4] at k6
   refine cz [(sd.length:Int)] rfl lI ?_
   conv=>whnf
   refine aI ?_
   conv=>whnf
   exact⟨(k+1,sd,sg++[(sd.length:Int)]),bn.by_ [(1000, .old 1000),(1001, .old 81)] _ 400 rfl (aa) (aa),⟨by dsimp only;omega,by dsimp only;rw[List.length_append,List.length_singleton];omega,⟨m2,m3⟩,k6⟩,by dsimp only;omega⟩
 ·obtain rfl:k=r.steps.length+1:=by omega
  rw[List.drop_of_length_le (by omega),lH] at k5
  have hbr:=Gz p q sc s
  rw[k5] at he hsch hnd hvl hmem1 hmem2 hseg hsl hbeg
  dsimp only at he hsch hnd hvl hmem1 hmem2 hseg hsl hbeg
  have hv3:3<=(ak p q sc).length:=by unfold ak;simp only[List.length_append,List.length_cons,List.length_nil];omega
  have hsz:=rd.sz
  have hst2:=rd.adm.1
  unfold rg at hst2
  have hcb:∀i k:Nat,i<=8->k<=48->pR 1152921504606846976 (ml s r.start r.steps sg i k):=fun i k hi hk v=>by
   have a1:=LY r.start v i
   have b1:=LZ r.start r.steps sg v k
   have hb:0<=pL s v/\pL s v<=8:=by
    unfold pL
    split
    ·omega
    ·split
     ·omega
     ·split<;>omega
   unfold ml
   omega
  have hup1:=fun i=>Nr s r.start r.steps sg i
  have hup2:=fun k=>Ns s r.start r.steps sg r.start.states.length k
  have h00:(ak p q sc).map (pL s)=(ak p q sc).map (ml s r.start r.steps sg 0 0):=List.map_congr_left fun w _=>by
   unfold ml
   rw[cS,cT]
   omega
  rw[h00] at hbr
  generalize ak p q sc=vars at*
  refine am.hand 1000 rfl ?_
  refine am.news 400 cH (cG p q sc vars []) (.ptr 200 0) hbeg (aa) rfl (by rintro u M' ⟨rfl,rfl⟩;exact⟨(aa),(aa)⟩) ?_
  conv=>whnf
  refine Dw 0 ao 0 rfl (by dsimp only;omega) ?_
  rw[tN]
  conv=>whnf
  apply f7
  case k=>
   intro o1 o2 o3 o4 o5 o6
   refine rI [3,4,5,6,7,8,9,11,13] (by decide+kernel) ?_
   conv=>whnf
   repeat' first
    |exact True.intro
    |(refine And.intro ?_ ?_<;>conv=>whnf)
    |(refine bX (by clear o1 o2 o3 o4 o5 o6;omega) ?_;conv=>whnf)
    |(refine aw s.n rfl ?_;conv=>whnf)
    |(refine aw s.t rfl ?_;conv=>whnf)
    |(refine aw s.f rfl ?_;conv=>whnf)
    |with_reducible exact o1
    |with_reducible exact o2
    |with_reducible exact o3
    |with_reducible exact o4
    |with_reducible exact o5
    |with_reducible exact o6
    |fail
  all_goals try first
   |exact True.intro
   |exact True
  all_goals
   refine aQ.loopF ae ag (fun i:Nat=>i<=r.start.states.length) (fun i=>[(108, .int .i64 (i:Int))]) (fun i=>[(20, .box 151 [.ptr 200 0]),(21, .box 24 [.row 90 vars.length 1]),(90, .row 3 0 ao (vars.map (ml s r.start r.steps sg i 0))),(1000, .gone (0:Int) ao sc),(1001, .row 3 0 ao sg)]++cG p q sc vars []) (fun i=>r.start.states.length-i) 0 (Nat.zero_le _) ?_;conv=>whnf
   refine⟨by rw[<-hbr];exact bn.by_ ([(20, .old 20),(21, .old 21),(90, .old 90),(1000, .old 1000),(1001, .old 1001)]++cH) _ 400 rfl (aa) (aa),?_⟩
   rintro i hi
   conv=>whnf
   refine ah ?_ ?_<;>(intro g2;conv=>whnf)
   rotate_left
   ·obtain rfl:i=r.start.states.length:=by omega
    refine aQ.loopF ae ag (fun k:Nat=>k<=r.steps.length) (fun k=>[(125, .int .i64 (k:Int))]) (fun k=>[(20, .box 151 [.ptr 200 0]),(21, .box 24 [.row 90 vars.length 1]),(90, .row 3 0 ao (vars.map (ml s r.start r.steps sg r.start.states.length k))),(1000, .gone (0:Int) ao sc),(1001, .row 3 0 ao sg)]++cG p q sc vars []) (fun k=>r.steps.length-k) 0 (Nat.zero_le _) ?_;conv=>whnf
    refine⟨bn.by_ ([(20, .old 20),(21, .old 21),(90, .old 90),(1000, .old 1000),(1001, .old 1001)]++cH) _ 400 rfl (aa) (aa),?_⟩
    rintro k hk
    conv=>whnf
    refine ah ?_ ?_<;>(intro g3;conv=>whnf)
    rotate_left
    ·obtain rfl:k=r.steps.length:=by omega
     subst he
     refine ni ?_
     conv=>whnf
     repeat' first
      |exact True.intro
      |(refine And.intro ?_ ?_<;>conv=>whnf)
      |exact .inl rfl
      |exact rfl
      |fail
    refine nI ?_
    rw[tN]
    conv=>whnf
    have hm:=hmem2 k (by omega)
    have hu:=hup2 k
    refine wG (by decide+kernel) ?_
    conv=>whnf
    refine ah ?_ ?_<;>(intro g4;conv=>whnf)
    ·have e1:lJ r.start r.steps sg k=⟨5,sg.getD k 0,(r.steps.getD k bI).rule⟩:=by unfold lJ;rw[if_pos g4]
     rw[e1] at hm hu
     have hcnt:=countP p q sc vars (ml s r.start r.steps sg r.start.states.length k) hnd (by omega) true 5 6 (sg.getD k 0) (r.steps.getD k bI).rule 5 rfl (.inr ⟨rfl,rfl⟩) hm (hcb r.start.states.length k (by omega) (by omega))
     rw[hu] at hcnt
     refine nI ?_
     rw[tN]
     conv=>whnf
     refine am.call ([(220, .old 20),(221, .old 21),(230, .old 90)]++cH) (L5 p q sc vars (ml s r.start r.steps sg r.start.states.length k)) 400 rfl (aa) (aa) hcnt ?_
     rintro u M' ⟨rfl,rfl⟩
     refine⟨[(20, .old 220),(21, .old 221),(90, .old 230)]++cH,[(20, .box 151 [.ptr 200 0]),(21, .box 24 [.row 90 vars.length 1]),(90, .row 3 0 ao (vars.map (ml s r.start r.steps sg r.start.states.length (k+1))))]++cG p q sc vars [], .tup [],rfl,(aa),trivial,?_⟩
     conv=>whnf
     refine aI ?_
     conv=>whnf
     exact⟨k+1,bn.by_ ([(20, .old 20),(21, .old 21),(90, .old 90),(1000, .old 1000),(1001, .old 1001)]++cH) _ 400 rfl (aa) (aa),by omega,by dsimp only;omega⟩
    ·have e1:lJ r.start r.steps sg k=⟨6,sg.getD k 0,(r.steps.getD k bI).rule⟩:=by unfold lJ;rw[if_neg g4]
     rw[e1] at hm hu
     have hcnt:=countP p q sc vars (ml s r.start r.steps sg r.start.states.length k) hnd (by omega) false 5 6 (sg.getD k 0) (r.steps.getD k bI).rule 6 rfl (.inr ⟨rfl,rfl⟩) hm (hcb r.start.states.length k (by omega) (by omega))
     rw[hu] at hcnt
     refine nI ?_
     rw[tN]
     conv=>whnf
     refine am.call ([(220, .old 20),(221, .old 21),(230, .old 90)]++cH) (L5 p q sc vars (ml s r.start r.steps sg r.start.states.length k)) 400 rfl (aa) (aa) hcnt ?_
     rintro u M' ⟨rfl,rfl⟩
     refine⟨[(20, .old 220),(21, .old 221),(90, .old 230)]++cH,[(20, .box 151 [.ptr 200 0]),(21, .box 24 [.row 90 vars.length 1]),(90, .row 3 0 ao (vars.map (ml s r.start r.steps sg r.start.states.length (k+1))))]++cG p q sc vars [], .tup [],rfl,(aa),trivial,?_⟩
     conv=>whnf
     refine aI ?_
     conv=>whnf
     exact⟨k+1,bn.by_ ([(20, .old 20),(21, .old 21),(90, .old 90),(1000, .old 1000),(1001, .old 1001)]++cH) _ 400 rfl (aa) (aa),by omega,by dsimp only;omega⟩
   refine nI ?_
   rw[tN]
   conv=>whnf
   have hm:=hmem1 i (by omega)
   have hu:=hup1 i
   refine ah ?_ ?_<;>(intro g3;conv=>whnf)
   ·have e1:fV r.start i=⟨3,0,r.start.states.getD i 0⟩:=by unfold fV;rw[if_pos g3]
    rw[e1] at hm hu
    have hcnt:=countP p q sc vars (ml s r.start r.steps sg i 0) hnd (by omega) true 3 4 0 (r.start.states.getD i 0) 3 rfl (.inl ⟨rfl,rfl⟩) hm (hcb i 0 (by omega) (by omega))
    rw[hu] at hcnt
    refine am.call ([(220, .old 20),(221, .old 21),(230, .old 90)]++cH) (L5 p q sc vars (ml s r.start r.steps sg i 0)) 400 rfl (aa) (aa) hcnt ?_
    rintro u M' ⟨rfl,rfl⟩
    refine⟨[(20, .old 220),(21, .old 221),(90, .old 230)]++cH,[(20, .box 151 [.ptr 200 0]),(21, .box 24 [.row 90 vars.length 1]),(90, .row 3 0 ao (vars.map (ml s r.start r.steps sg (i+1) 0)))]++cG p q sc vars [], .tup [],rfl,(aa),trivial,?_⟩
    conv=>whnf
    refine aI ?_
    conv=>whnf
    exact⟨i+1,bn.by_ ([(20, .old 20),(21, .old 21),(90, .old 90),(1000, .old 1000),(1001, .old 1001)]++cH) _ 400 rfl (aa) (aa),by omega,by dsimp only;omega⟩
   ·have e1:fV r.start i=⟨4,0,r.start.states.getD i 0⟩:=by unfold fV;rw[if_neg g3]
    rw[e1] at hm hu
    have hcnt:=countP p q sc vars (ml s r.start r.steps sg i 0) hnd (by omega) false 3 4 0 (r.start.states.getD i 0) 4 rfl (.inl ⟨rfl,rfl⟩) hm (hcb i 0 (by omega) (by omega))
    rw[hu] at hcnt
    refine am.call ([(220, .old 20),(221, .old 21),(230, .old 90)]++cH) (L5 p q sc vars (ml s r.start r.steps sg i 0)) 400 rfl (aa) (aa) hcnt ?_
    rintro u M' ⟨rfl,rfl⟩
    refine⟨[(20, .old 220),(21, .old 221),(90, .old 230)]++cH,[(20, .box 151 [.ptr 200 0]),(21, .box 24 [.row 90 vars.length 1]),(90, .row 3 0 ao (vars.map (ml s r.start r.steps sg (i+1) 0)))]++cG p q sc vars [], .tup [],rfl,(aa),trivial,?_⟩
    conv=>whnf
    refine aI ?_
    conv=>whnf
    exact⟨i+1,bn.by_ ([(20, .old 20),(21, .old 21),(90, .old 90),(1000, .old 1000),(1001, .old 1001)]++cH) _ 400 rfl (aa) (aa),by omega,by dsimp only;omega⟩
end Go.Proofs.YtekmminpfhacpaaGreatDoor
