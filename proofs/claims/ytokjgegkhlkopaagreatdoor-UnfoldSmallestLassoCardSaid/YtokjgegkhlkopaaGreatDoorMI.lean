import Derived.Test.YtokjgegkhlkopaaGreatDoorMB
set_option linter.unusedVariables false
set_option linter.unusedSimpArgs false
namespace Go.Proofs.YtokjgegkhlkopaaGreatDoor
set_option maxRecDepth 100000
set_option maxHeartbeats 16000000
theorem HP:∀m,m<=3->GA (ci (2*m+1)):=by
 intro m hm
 match m,hm with
 |0,_=>exact List.pairwise_singleton _ _
 |1,_=>exact(nK 1 (by decide)).1
 |2,_=>exact(nK 2 (by decide)).1
 |3,_=>exact(nK 3 (by decide)).1
theorem CN:an Tryz.prog 51 [.nilsl] (ai.ofL []) (fun u M=>u= .row 5 ([]:List Int).length 1/\M 5=some (bG [])):=by
 refine an.call (args':=[.sl 0 aD []]) [] [] 400 rfl trivial ⟨rfl,trivial⟩ (fA [] (by simp)) fun u M' h=>?_
 obtain⟨h1,h2⟩:=vD u M' h
 exact⟨[(5, .old 5)],[(5,bG [])], .row 5 0 1,rfl,h1,h2,rfl,rfl⟩
theorem CO (p:ao) (q:bn) (s:az) (hp:¬b9 p) (hq:¬eU q) (hv:cq p q=0) (hz:cT p s=0) (hT:p.topology=4):ae Tryz.prog 21 [.agg (bf p), .agg (eh q), .agg (b7 s)] (NK (vO p q s)):=by
 have hle:=aF hp
 have hsz:=dM hz
 obtain⟨n,hn⟩:∃n:Nat,ee p s=n:=⟨(ee p s).toNat,by unfold ee;split<;>omega⟩
 have hn8:n<=8:=by unfold ee at hn;split at hn<;>omega
 have hM:=rE p s (by omega)
 rw[hn] at hM
 refine ae.intro ab ac Tryz.func21 rfl (by decide) ?_;(conv=>whnf)
 refine am rfl ?_
 conv=>whnf
 refine am rfl ?_
 conv=>whnf
 refine am rfl ?_
 conv=>whnf
 obtain⟨m,hm,hsn⟩:=rU hz hT
 have hF0:=o6 m hm
 have hF1:=(fR (n:=2*m+1) (by omega)).1
 have hF2:=(fR (n:=2*m+1) (by omega)).2
 have hS:=vo m hm
 have hasc:=HP m hm
 have hform:i6 p s=ci (2*m+1):=by unfold i6;rw[if_pos hT,hsn];rfl
 rw[<-hsn] at hS
 generalize ci (2*m+1)=forms at hF0 hF1 hF2 hS hasc hform
 refine cA none kT [none] rfl ?_
 conv=>whnf
 repeat' ((first|refine nI ?_|refine aI ?_|refine tI ?_|refine fI ?_|fail);conv=>whnf)
 refine an.of_pure (n:=5) hS rfl ?_
 rintro _ rfl
 dsimp only
 rw[bN]
 dsimp only[cC,List.set]
 simp only[fW]
 rw[bQ]
 simp only[gv,bh,List.map_cons,List.map_nil,bz,kg,cC]
 dsimp only[dA,pR,po,fZ,List.set]
 rw[aP]
 dsimp only[List.getD,List.set,fx,fW]
 rw[bQ]
 simp only[gv,bh,List.map_cons,List.map_nil,bz,kg,cC]
 dsimp only[dA,pR,po,fZ,List.set,List.getD]
 rw[aP]
 rw[bQ]
 simp only[gv,bh,List.map_cons,List.map_nil,bz,kg,cC]
 dsimp only[dA,List.getD,BN,List.set]
 refine an.of_pure (n:=5) (w7 forms (by omega) (fun a ha=>by have:=hF2 a ha;omega) hasc) rfl ?_
 rintro _ rfl
 conv=>whnf
 (refine oP (hM) ?_;conv=>whnf)
 have he:vO p q s=if n5 forms.length (cK p q s) n then(dk p s forms (ar (cK p q s) n),true) else([],false):=by
  unfold vO;rw[hform,hn];rfl
 refine aE.loopF ab ac (fun k:Nat=>k<=n/\∀j,j<k->e8 forms.length (cK p q s) (j+1)<=4000) (fun k=>[(11, .int .i64 (k:Int)),(21, .top),(9, .int .i64 (e8 forms.length (cK p q s) k:Int))]) (fun _=>[]) (fun k=>n-k) 0 ⟨by omega,fun j hj=>by omega⟩ ?_;conv=>whnf
 refine⟨sI,?_⟩
 rintro k ⟨hk,ha⟩
 conv=>whnf
 refine ah ?_ ?_<;>(intro g1;conv=>whnf)
 ·have hck:=jp hp hq s k
  have htk:e8 forms.length (cK p q s) k<=4000:=rT hF1 hk ha
  have hmul:=Nat.mul_le_mul htk hck
  have hup:e8 forms.length (cK p q s) (k+1)=e8 forms.length (cK p q s) k*(cK p q s k).length:=rfl
  (refine oP (lG p q s k hp hq (by omega)) ?_;conv=>whnf)
  rw[<-Int.natCast_mul,<-hup]
  refine aI ?_
  conv=>whnf
  refine ah ?_ ?_<;>(intro g2;conv=>whnf)
  ·rw[if_neg (fun hb=>by have:=hb k (by omega);omega)] at he
   exact⟨.inr ⟨rfl,he⟩,rfl⟩
  ·repeat' ((first|refine nI ?_|refine aI ?_|refine tI ?_|refine fI ?_|fail);conv=>whnf)
   refine⟨k+1,sI,⟨by omega,fun j hj=>?_⟩,by dsimp only;omega⟩
   by_cases e:j=k
   ·subst e;omega
   ·exact ha j (by omega)
 have hB:n5 forms.length (cK p q s) n:=fun j hj=>ha j (by omega)
 rw[if_pos hB] at he
 have hpl:=n6 (F:=forms.length) (ch:=cK p q s) hF0 (by omega) hB
 have hpw:=jW (cK p q s)
 have hpk:∀k,ar (cK p q s) (k+1)=fg (ar (cK p q s) k) (cK p q s k):=fun _=>rfl
 have hp0:ar (cK p q s) 0=[[]]:=rfl
 have hch:∀k,(cK p q s k).length<=60:=fun k=>jp hp hq s k
 have hcR:∀i:Nat,ae Tryz.prog 50 [.agg (bf p), .agg (eh q), .agg (b7 s), .int .i64 (i:Int)] (fun u=>u= .sl 0 aD (cK p q s i)):=fun i=>lG p q s i hp hq (by omega)
 clear ha
 generalize cK p q s=ch at he hpl hpw hpk hp0 hch hcR hB
 refine aE.loopF ab ac (fun a:Nat=>a<=forms.length) (fun a=>[(13, .int .i64 (a:Int)),(12, .row 1000 (dk p s (forms.take a) (ar ch n)).length 6)]) (fun a=>[(1000,kS (dk p s (forms.take a) (ar ch n)))]) (fun a=>forms.length-a) 0 (Nat.zero_le _) ?_;conv=>whnf
 refine⟨aM.by_ [(1000, .nil 6)] _ 400 rfl (aa) (aa),?_⟩
 rintro a ha
 conv=>whnf
 refine ah ?_ ?_<;>(intro g2;conv=>whnf)
 ·have hup:=md (p:=p) (s:=s) (W:=ar ch n) (show a<forms.length by omega)
  have hwl:forms.length*(ar ch n).length<=4000:=by exact(hpl n (Nat.le_refl n)).2
  have hw4:=(hpl n (Nat.le_refl n)).1
  refine cA 0 aD [] rfl ?_
  conv=>whnf
  refine cA [] cU [[]] rfl ?_
  conv=>whnf
  refine aE.loopF ab ac (fun k:Nat=>k<=n) (fun k=>[(15, .int .i64 (k:Int)),(56, .top),(57, .top),(14, .sl [] cU (ar ch k))]) (fun _=>[(1000,kS (dk p s (forms.take a) (ar ch n)))]) (fun k=>n-k) 0 (Nat.zero_le _) ?_;conv=>whnf
  refine⟨aM.leak 57 rfl sI,?_⟩
  rintro k hk
  conv=>whnf
  refine ah ?_ ?_<;>(intro g1;conv=>whnf)
  ·(refine oP (hcR k) ?_;conv=>whnf)
   have hc:=hch k
   have hm:=(hpl (k+1) (by omega)).1
   have hm0:=(hpl k (by omega)).1
   have hw:∀w∈ar ch k,w.length<=8:=fun w h=>by have:=hpw k w h;omega
   have hpk:=hpk k
   rw[hpk] at hm
   refine aE.loopF ab ac (fun a2:Nat=>a2<=(ar ch k).length) (fun a2=>[(18, .int .i64 (a2:Int)),(17, .row 1001 (fg ((ar ch k).take a2) (ch k)).length 1)]) (fun a2=>[(1000,kS (dk p s (forms.take a) (ar ch n))),(1001,cJ (fg ((ar ch k).take a2) (ch k)))]) (fun a2=>(ar ch k).length-a2) 0 (Nat.zero_le _) ?_;conv=>whnf
   refine⟨aM.by_ [(1000, .old 1000),(1001, .nil 1)] _ 400 rfl (aa) (aa),?_⟩
   rintro a2 ha2
   conv=>whnf
   refine ah ?_ ?_<;>(intro g2;conv=>whnf)
   ·have hwa:((ar ch k).getD a2 []).length<=8:=by
     rw[xM (by omega)];exact hw _ (List.getElem_mem _)
    have hup3:=o4 (c:=ch k) (show a2<(ar ch k).length by omega)
    have hz0:(List.map (fun x=>(ar ch k).getD a2 []++[x]) (List.take 0 (ch k))).length=0:=by simp
    refine aE.loopF ab ac (fun b:Nat=>b<=(ch k).length) (fun b=>[(19, .int .i64 (b:Int)),(17, .row 1001 (fg ((ar ch k).take a2) (ch k)++((ch k).take b).map fun x=>(ar ch k).getD a2 []++[x]).length 1)]) (fun b=>[(1000,kS (dk p s (forms.take a) (ar ch n))),(1001,cJ (fg ((ar ch k).take a2) (ch k)++((ch k).take b).map fun x=>(ar ch k).getD a2 []++[x]))]) (fun b=>(ch k).length-b) 0 (Nat.zero_le _) ?_;conv=>whnf
    refine⟨aM.id_ 400 rfl ⟨rfl,by show aX.row _ _ _ _=aX.row _ _ _ _;simp,trivial⟩ (aa),?_⟩
    rintro b hbb
    conv=>whnf
    refine ah ?_ ?_<;>(intro g3;conv=>whnf)
    ·have hlt:=rS (h:=(ar ch k).getD a2 []) (show a2<(ar ch k).length by omega) (show b<(ch k).length by omega) hm
     have hup2:=o5 (h:=(ar ch k).getD a2 []) (show b<(ch k).length by omega)
     have hz1:(List.map (fun x=>(ar ch k).getD a2 []++[x]) (List.take (b+1) (ch k))).length=(List.map (fun x=>(ar ch k).getD a2 []++[x]) (List.take b (ch k))).length+1:=by rw[hup2];simp
     refine eC (by decide+kernel) ?_
     conv=>whnf
     refine nI ?_
     conv=>whnf
     refine cD 400 [(1005, .old 5)] [(1005,bG ((ar ch k).getD a2 []))] (.row 1005 ((ar ch k).getD a2 []).length 1) (fA ((ar ch k).getD a2 []) (by omega)) (aa) rfl rfl vD ?_
     conv=>whnf
     refine nI ?_
     conv=>whnf
     refine iH ?_
     conv=>whnf
     refine cB [(ch k).getD b 0] rfl lI ?_
     conv=>whnf
     refine cA [] cU [(ar ch k).getD a2 []++[(ch k).getD b 0]] rfl ?_
     conv=>whnf
     refine iH ?_
     conv=>whnf
     refine cB [(ar ch k).getD a2 []++[(ch k).getD b 0]] rfl lI ?_
     conv=>whnf
     repeat' ((first|refine nI ?_|refine aI ?_|refine tI ?_|refine fI ?_|fail);conv=>whnf)
     exact⟨b+1,aM.by_ [(1000, .old 1000),(1001, .old 93)] _ 400 rfl ⟨rfl,by show aX.row _ _ _ _=aX.row _ _ _ _;rw[List.append_assoc,<-hup2],trivial⟩ (aa),by omega,by dsimp only;omega⟩
    ·have hb9:b=(ch k).length:=by omega
     have hl9:fg ((ar ch k).take a2) (ch k)++List.map (fun x=>(ar ch k).getD a2 []++[x]) ((ch k).take b)=fg ((ar ch k).take (a2+1)) (ch k):=by rw[hb9,List.take_length,<-hup3]
     have hl8:=congrArg List.length hl9
     repeat' ((first|refine nI ?_|refine aI ?_|refine tI ?_|refine fI ?_|fail);conv=>whnf)
     exact⟨a2+1,aM.id_ 400 rfl ⟨rfl,by show aX.row _ _ _ _=aX.row _ _ _ _;rw[hl9],trivial⟩ (aa),by omega,by dsimp only;omega⟩
   ·have ha9:a2=(ar ch k).length:=by omega
    have hl9:fg ((ar ch k).take a2) (ch k)=ar ch (k+1):=by rw[ha9,List.take_length,<-hpk]
    repeat' ((first|refine nI ?_|refine aI ?_|refine tI ?_|refine fI ?_|fail);conv=>whnf)
    exact⟨k+1,aM.leak 1001 rfl (by rw[hl9];exact sI),by omega,by dsimp only;omega⟩
  ·obtain rfl:n=k:=by omega
   have hz0:(List.map (dE p s (forms.getD a [])) (List.take 0 (ar ch n))).length=0:=by simp
   refine aE.loopF ab ac (fun b:Nat=>b<=(ar ch n).length) (fun b=>[(20, .int .i64 (b:Int)),(12, .row 1000 (dk p s (forms.take a) (ar ch n)++((ar ch n).take b).map (dE p s (forms.getD a []))).length 6)]) (fun b=>[(1000,kS (dk p s (forms.take a) (ar ch n)++((ar ch n).take b).map (dE p s (forms.getD a []))))]) (fun b=>(ar ch n).length-b) 0 (Nat.zero_le _) ?_;conv=>whnf
   refine⟨aM.id_ 400 rfl ⟨by show aX.row _ _ _ _=aX.row _ _ _ _;simp,trivial⟩ (aa),?_⟩
   rintro b hb
   conv=>whnf
   refine ah ?_ ?_<;>(intro g3;conv=>whnf)
   ·have hlt:=n7 (p:=p) (s:=s) (sh:=(forms.getD a [])) (show a<forms.length by omega) (show b<(ar ch n).length by omega) hwl
    have hup2:=mf (p:=p) (s:=s) (sh:=(forms.getD a [])) (show b<(ar ch n).length by omega)
    have hz1:(List.map (dE p s (forms.getD a [])) (List.take (b+1) (ar ch n))).length=(List.map (dE p s (forms.getD a [])) (List.take b (ar ch n))).length+1:=by rw[hup2];simp
    have hsh:(forms.getD a []).length<=8:=by rw[xM (by omega)];exact hF2 _ (List.getElem_mem _)
    refine eC (by decide+kernel) ?_
    conv=>whnf
    refine nI ?_
    conv=>whnf
    refine cD 400 [(1005, .old 5)] [(1005,bG (forms.getD a []))] (.row 1005 (forms.getD a []).length 1) (fA (forms.getD a []) (by omega)) (aa) rfl rfl vD ?_
    conv=>whnf
    refine nI ?_
    conv=>whnf
    refine aI ?_
    conv=>whnf
    refine ww 0 aD 0 rfl (by dsimp only;omega) ?_
    conv=>whnf
    refine ww 0 aD 0 rfl (by dsimp only;omega) ?_
    conv=>whnf
    refine cA aC bg [dE p s (forms.getD a []) ((ar ch n).getD b [])] rfl ?_
    conv=>whnf
    refine iH ?_
    conv=>whnf
    refine cB [dE p s (forms.getD a []) ((ar ch n).getD b [])] rfl lI ?_
    conv=>whnf
    repeat' ((first|refine nI ?_|refine aI ?_|refine tI ?_|refine fI ?_|fail);conv=>whnf)
    exact⟨b+1,aM.by_ [(1000, .old 126)] _ 400 rfl ⟨by show aX.row _ _ _ _=aX.row _ _ _ _;rw[List.append_assoc,<-hup2],trivial⟩ (aa),by omega,by dsimp only;omega⟩
   ·have hb9:b=(ar ch n).length:=by omega
    have hl9:dk p s (forms.take a) (ar ch n)++List.map (dE p s (forms.getD a [])) ((ar ch n).take b)=dk p s (forms.take (a+1)) (ar ch n):=by rw[hb9,List.take_length,<-hup]
    have hl8:=congrArg List.length hl9
    repeat' ((first|refine nI ?_|refine aI ?_|refine tI ?_|refine fI ?_|fail);conv=>whnf)
    exact⟨a+1,aM.id_ 400 rfl ⟨by show aX.row _ _ _ _=aX.row _ _ _ _;rw[hl9],trivial⟩ (aa),by omega,by dsimp only;omega⟩
 ·have e:a=forms.length:=by omega
  rw[e,List.take_length]
  exact⟨.inl (by rw[he];rfl),rfl⟩
theorem CP (p:ao) (q:bn) (s:az) (hp:¬b9 p) (hq:¬eU q) (hv:cq p q=0) (hz:cT p s=0) (hT:¬p.topology=4):ae Tryz.prog 21 [.agg (bf p), .agg (eh q), .agg (b7 s)] (NK (vO p q s)):=by
 have hle:=aF hp
 have hsz:=dM hz
 obtain⟨n,hn⟩:∃n:Nat,ee p s=n:=⟨(ee p s).toNat,by unfold ee;split<;>omega⟩
 have hn8:n<=8:=by unfold ee at hn;split at hn<;>omega
 have hM:=rE p s (by omega)
 rw[hn] at hM
 refine ae.intro ab ac Tryz.func21 rfl (by decide) ?_;(conv=>whnf)
 refine am rfl ?_
 conv=>whnf
 refine am rfl ?_
 conv=>whnf
 refine am rfl ?_
 conv=>whnf
 obtain⟨forms,hfm⟩:∃f:List (List Int),f=[[]]:=⟨_,rfl⟩
 have hF0:1<=1:=Nat.le_refl 1
 have hF1:1<=5:=by decide
 have hfl:forms.length=1:=by rw[hfm];rfl
 have hg0:∀a,a<forms.length->([none]:List (Option (List Int))).getD a none=none:=fun a h=>by rw[show a=0 by omega];rfl
 have hf0:∀a,a<forms.length->forms.getD a []=[]:=fun a h=>by rw[show a=0 by omega,hfm];rfl
 have hform:i6 p s=forms:=by unfold i6;rw[if_neg hT,hfm]
 have hl2:([none]:List (Option (List Int))).length=forms.length:=by rw[hfl];rfl
 refine cA none kT [none] rfl ?_
 conv=>whnf
 repeat' ((first|refine nI ?_|refine aI ?_|refine tI ?_|refine fI ?_|fail);conv=>whnf)
 (refine oP (hM) ?_;conv=>whnf)
 have he:vO p q s=if n5 1 (cK p q s) n then(dk p s forms (ar (cK p q s) n),true) else([],false):=by
  unfold vO;rw[hform,hn,hfl];rfl
 refine aE.loopF ab ac (fun k:Nat=>k<=n/\∀j,j<k->e8 1 (cK p q s) (j+1)<=4000) (fun k=>[(11, .int .i64 (k:Int)),(8, .sl none kT [none]),(21, .sl none kT [none]),(30, .sl none kT [none]),(9, .int .i64 (e8 1 (cK p q s) k:Int))]) (fun _=>[]) (fun k=>n-k) 0 ⟨by omega,fun j hj=>by omega⟩ ?_;conv=>whnf
 refine⟨aM.leak 21 rfl sI,?_⟩
 rintro k ⟨hk,ha⟩
 conv=>whnf
 refine ah ?_ ?_<;>(intro g1;conv=>whnf)
 ·have hck:=jp hp hq s k
  have htk:e8 1 (cK p q s) k<=4000:=rT hF1 hk ha
  have hmul:=Nat.mul_le_mul htk hck
  have hup:e8 1 (cK p q s) (k+1)=e8 1 (cK p q s) k*(cK p q s k).length:=rfl
  (refine oP (lG p q s k hp hq (by omega)) ?_;conv=>whnf)
  rw[<-Int.natCast_mul,<-hup]
  refine aI ?_
  conv=>whnf
  refine ah ?_ ?_<;>(intro g2;conv=>whnf)
  ·rw[if_neg (fun hb=>by have:=hb k (by omega);omega)] at he
   exact⟨.inr ⟨rfl,he⟩,rfl⟩
  ·repeat' ((first|refine nI ?_|refine aI ?_|refine tI ?_|refine fI ?_|fail);conv=>whnf)
   refine⟨k+1,sI,⟨by omega,fun j hj=>?_⟩,by dsimp only;omega⟩
   by_cases e:j=k
   ·subst e;omega
   ·exact ha j (by omega)
 have hB:n5 1 (cK p q s) n:=fun j hj=>ha j (by omega)
 rw[if_pos hB] at he
 have hpl:=n6 (F:=1) (ch:=cK p q s) hF0 (by omega) hB
 have hpw:=jW (cK p q s)
 have hpk:∀k,ar (cK p q s) (k+1)=fg (ar (cK p q s) k) (cK p q s k):=fun _=>rfl
 have hp0:ar (cK p q s) 0=[[]]:=rfl
 have hch:∀k,(cK p q s k).length<=60:=fun k=>jp hp hq s k
 have hcR:∀i:Nat,ae Tryz.prog 50 [.agg (bf p), .agg (eh q), .agg (b7 s), .int .i64 (i:Int)] (fun u=>u= .sl 0 aD (cK p q s i)):=fun i=>lG p q s i hp hq (by omega)
 clear ha
 generalize cK p q s=ch at he hpl hpw hpk hp0 hch hcR hB
 refine aE.loopF ab ac (fun a:Nat=>a<=1) (fun a=>[(13, .int .i64 (a:Int)),(12, .row 1000 (dk p s (forms.take a) (ar ch n)).length 6)]) (fun a=>[(1000,kS (dk p s (forms.take a) (ar ch n)))]) (fun a=>1-a) 0 (Nat.zero_le _) ?_;conv=>whnf
 refine⟨aM.by_ [(1000, .nil 6)] _ 400 rfl (aa) (aa),?_⟩
 rintro a ha
 conv=>whnf
 refine ah ?_ ?_<;>(intro g2;conv=>whnf)
 ·have hup:=md (p:=p) (s:=s) (W:=ar ch n) (show a<forms.length by omega)
  have hwl:forms.length*(ar ch n).length<=4000:=by rw[hfl];exact(hpl n (Nat.le_refl n)).2
  have hw4:=(hpl n (Nat.le_refl n)).1
  refine cA 0 aD [] rfl ?_
  conv=>whnf
  refine cA [] cU [[]] rfl ?_
  conv=>whnf
  refine aE.loopF ab ac (fun k:Nat=>k<=n) (fun k=>[(15, .int .i64 (k:Int)),(56, .top),(57, .top),(14, .sl [] cU (ar ch k))]) (fun _=>[(1000,kS (dk p s (forms.take a) (ar ch n)))]) (fun k=>n-k) 0 (Nat.zero_le _) ?_;conv=>whnf
  refine⟨aM.leak 57 rfl sI,?_⟩
  rintro k hk
  conv=>whnf
  refine ah ?_ ?_<;>(intro g1;conv=>whnf)
  ·(refine oP (hcR k) ?_;conv=>whnf)
   have hc:=hch k
   have hm:=(hpl (k+1) (by omega)).1
   have hm0:=(hpl k (by omega)).1
   have hw:∀w∈ar ch k,w.length<=8:=fun w h=>by have:=hpw k w h;omega
   have hpk:=hpk k
   rw[hpk] at hm
   refine aE.loopF ab ac (fun a2:Nat=>a2<=(ar ch k).length) (fun a2=>[(18, .int .i64 (a2:Int)),(17, .row 1001 (fg ((ar ch k).take a2) (ch k)).length 1)]) (fun a2=>[(1000,kS (dk p s (forms.take a) (ar ch n))),(1001,cJ (fg ((ar ch k).take a2) (ch k)))]) (fun a2=>(ar ch k).length-a2) 0 (Nat.zero_le _) ?_;conv=>whnf
   refine⟨aM.by_ [(1000, .old 1000),(1001, .nil 1)] _ 400 rfl (aa) (aa),?_⟩
   rintro a2 ha2
   conv=>whnf
   refine ah ?_ ?_<;>(intro g2;conv=>whnf)
   ·have hwa:((ar ch k).getD a2 []).length<=8:=by
     rw[xM (by omega)];exact hw _ (List.getElem_mem _)
    have hup3:=o4 (c:=ch k) (show a2<(ar ch k).length by omega)
    have hz0:(List.map (fun x=>(ar ch k).getD a2 []++[x]) (List.take 0 (ch k))).length=0:=by simp
    refine aE.loopF ab ac (fun b:Nat=>b<=(ch k).length) (fun b=>[(19, .int .i64 (b:Int)),(17, .row 1001 (fg ((ar ch k).take a2) (ch k)++((ch k).take b).map fun x=>(ar ch k).getD a2 []++[x]).length 1)]) (fun b=>[(1000,kS (dk p s (forms.take a) (ar ch n))),(1001,cJ (fg ((ar ch k).take a2) (ch k)++((ch k).take b).map fun x=>(ar ch k).getD a2 []++[x]))]) (fun b=>(ch k).length-b) 0 (Nat.zero_le _) ?_;conv=>whnf
    refine⟨aM.id_ 400 rfl ⟨rfl,by show aX.row _ _ _ _=aX.row _ _ _ _;simp,trivial⟩ (aa),?_⟩
    rintro b hbb
    conv=>whnf
    refine ah ?_ ?_<;>(intro g3;conv=>whnf)
    ·have hlt:=rS (h:=(ar ch k).getD a2 []) (show a2<(ar ch k).length by omega) (show b<(ch k).length by omega) hm
     have hup2:=o5 (h:=(ar ch k).getD a2 []) (show b<(ch k).length by omega)
     have hz1:(List.map (fun x=>(ar ch k).getD a2 []++[x]) (List.take (b+1) (ch k))).length=(List.map (fun x=>(ar ch k).getD a2 []++[x]) (List.take b (ch k))).length+1:=by rw[hup2];simp
     refine eC (by decide+kernel) ?_
     conv=>whnf
     refine nI ?_
     conv=>whnf
     refine cD 400 [(1005, .old 5)] [(1005,bG ((ar ch k).getD a2 []))] (.row 1005 ((ar ch k).getD a2 []).length 1) (fA ((ar ch k).getD a2 []) (by omega)) (aa) rfl rfl vD ?_
     conv=>whnf
     refine nI ?_
     conv=>whnf
     refine iH ?_
     conv=>whnf
     refine cB [(ch k).getD b 0] rfl lI ?_
     conv=>whnf
     refine cA [] cU [(ar ch k).getD a2 []++[(ch k).getD b 0]] rfl ?_
     conv=>whnf
     refine iH ?_
     conv=>whnf
     refine cB [(ar ch k).getD a2 []++[(ch k).getD b 0]] rfl lI ?_
     conv=>whnf
     repeat' ((first|refine nI ?_|refine aI ?_|refine tI ?_|refine fI ?_|fail);conv=>whnf)
     exact⟨b+1,aM.by_ [(1000, .old 1000),(1001, .old 93)] _ 400 rfl ⟨rfl,by show aX.row _ _ _ _=aX.row _ _ _ _;rw[List.append_assoc,<-hup2],trivial⟩ (aa),by omega,by dsimp only;omega⟩
    ·have hb9:b=(ch k).length:=by omega
     have hl9:fg ((ar ch k).take a2) (ch k)++List.map (fun x=>(ar ch k).getD a2 []++[x]) ((ch k).take b)=fg ((ar ch k).take (a2+1)) (ch k):=by rw[hb9,List.take_length,<-hup3]
     have hl8:=congrArg List.length hl9
     repeat' ((first|refine nI ?_|refine aI ?_|refine tI ?_|refine fI ?_|fail);conv=>whnf)
     exact⟨a2+1,aM.id_ 400 rfl ⟨rfl,by show aX.row _ _ _ _=aX.row _ _ _ _;rw[hl9],trivial⟩ (aa),by omega,by dsimp only;omega⟩
   ·have ha9:a2=(ar ch k).length:=by omega
    have hl9:fg ((ar ch k).take a2) (ch k)=ar ch (k+1):=by rw[ha9,List.take_length,<-hpk]
    repeat' ((first|refine nI ?_|refine aI ?_|refine tI ?_|refine fI ?_|fail);conv=>whnf)
    exact⟨k+1,aM.leak 1001 rfl (by rw[hl9];exact sI),by omega,by dsimp only;omega⟩
  ·obtain rfl:n=k:=by omega
   rw[hf0 a (by omega)] at hup
   have hz0:(List.map (dE p s ([]:List Int)) (List.take 0 (ar ch n))).length=0:=by simp
   refine aE.loopF ab ac (fun b:Nat=>b<=(ar ch n).length) (fun b=>[(20, .int .i64 (b:Int)),(12, .row 1000 (dk p s (forms.take a) (ar ch n)++((ar ch n).take b).map (dE p s ([]:List Int))).length 6)]) (fun b=>[(1000,kS (dk p s (forms.take a) (ar ch n)++((ar ch n).take b).map (dE p s ([]:List Int))))]) (fun b=>(ar ch n).length-b) 0 (Nat.zero_le _) ?_;conv=>whnf
   refine⟨aM.id_ 400 rfl ⟨by show aX.row _ _ _ _=aX.row _ _ _ _;simp,trivial⟩ (aa),?_⟩
   rintro b hb
   conv=>whnf
   refine ah ?_ ?_<;>(intro g3;conv=>whnf)
   ·have hlt:=n7 (p:=p) (s:=s) (sh:=([]:List Int)) (show a<forms.length by omega) (show b<(ar ch n).length by omega) hwl
    have hup2:=mf (p:=p) (s:=s) (sh:=([]:List Int)) (show b<(ar ch n).length by omega)
    have hz1:(List.map (dE p s ([]:List Int)) (List.take (b+1) (ar ch n))).length=(List.map (dE p s ([]:List Int)) (List.take b (ar ch n))).length+1:=by rw[hup2];simp
    refine eC (by decide+kernel) ?_
    conv=>whnf
    refine nI ?_
    conv=>whnf
    rw[tN,hg0 a (by omega)]
    conv=>whnf
    refine cD 400 [(1005, .old 5)] [(1005,bG ([]:List Int))] (.row 1005 ([]:List Int).length 1) CN (aa) rfl rfl vD ?_
    conv=>whnf
    refine nI ?_
    conv=>whnf
    refine aI ?_
    conv=>whnf
    refine ww 0 aD 0 rfl (by dsimp only;omega) ?_
    conv=>whnf
    refine ww 0 aD 0 rfl (by dsimp only;omega) ?_
    conv=>whnf
    refine cA aC bg [dE p s ([]:List Int) ((ar ch n).getD b [])] rfl ?_
    conv=>whnf
    refine iH ?_
    conv=>whnf
    refine cB [dE p s ([]:List Int) ((ar ch n).getD b [])] rfl lI ?_
    conv=>whnf
    repeat' ((first|refine nI ?_|refine aI ?_|refine tI ?_|refine fI ?_|fail);conv=>whnf)
    exact⟨b+1,aM.by_ [(1000, .old 126)] _ 400 rfl ⟨by show aX.row _ _ _ _=aX.row _ _ _ _;rw[List.append_assoc,<-hup2],trivial⟩ (aa),by omega,by dsimp only;omega⟩
   ·have hb9:b=(ar ch n).length:=by omega
    have hl9:dk p s (forms.take a) (ar ch n)++List.map (dE p s ([]:List Int)) ((ar ch n).take b)=dk p s (forms.take (a+1)) (ar ch n):=by rw[hb9,List.take_length,<-hup]
    have hl8:=congrArg List.length hl9
    repeat' ((first|refine nI ?_|refine aI ?_|refine tI ?_|refine fI ?_|fail);conv=>whnf)
    exact⟨a+1,aM.id_ 400 rfl ⟨by show aX.row _ _ _ _=aX.row _ _ _ _;rw[hl9],trivial⟩ (aa),by omega,by dsimp only;omega⟩
 ·have e:a=forms.length:=by omega
  rw[e,List.take_length]
  exact⟨.inl (by rw[he];rfl),rfl⟩
theorem ME (p:ao) (q:bn) (s:az) (hp:¬b9 p) (hq:¬eU q) (hv:cq p q=0) (hz:cT p s=0):ae Tryz.prog 21 [.agg (bf p), .agg (eh q), .agg (b7 s)] (NK (vO p q s)):=by
 by_cases hT:p.topology=4
 ·exact CO p q s hp hq hv hz hT
 ·exact CP p q s hp hq hv hz hT
end Go.Proofs.YtokjgegkhlkopaaGreatDoor
