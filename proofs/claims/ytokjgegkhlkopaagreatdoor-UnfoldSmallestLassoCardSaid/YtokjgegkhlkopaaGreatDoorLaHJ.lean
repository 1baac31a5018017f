import Derived.Test.YtokjgegkhlkopaaGreatDoorLaG
import Derived.Test.YtokjgegkhlkopaaGreatDoorFsM
set_option linter.unusedVariables false
set_option linter.unusedSimpArgs false
namespace Go.Proofs.YtokjgegkhlkopaaGreatDoor
section
set_option maxRecDepth 100000
set_option maxHeartbeats 16000000
def ox (l:List aQ) (k:Nat):List aQ:=(List.range l.length).map fun j=>if j<k\/l.length<=j+k then l.getD (l.length-1-j) aR else l.getD j aR
theorem iW (l:List aQ) (k:Nat):(ox l k).length=l.length:=by simp[ox]
theorem j9 (l:List aQ) (k:Nat) {j:Nat} (h:j<l.length):(ox l k).getD j aR=if j<k\/l.length<=j+k then l.getD (l.length-1-j) aR else l.getD j aR:=by
 unfold ox
 rw[gD,List.getElem?_map,List.getElem?_range h]
 rfl
theorem C9 (l:List aQ):ox l 0=l:=by
 refine su (iW l 0) fun j hj=>?_
 rw[iW] at hj
 rw[j9 l 0 hj,if_neg (by omega)]
theorem Gf {l:List aQ} {k:Nat} (h:l.length<=k+k+1):ox l k=l.reverse:=by
 refine su (by rw[iW,List.length_reverse]) fun j hj=>?_
 rw[iW] at hj
 have e:l.reverse.getD j aR=l.getD (l.length-1-j) aR:=by
  rw[gD,gD,List.getElem?_reverse hj]
 rw[j9 l k hj,e]
 split
 ·rfl
 ·congr 1
  omega
theorem Iu {l:List aQ} {k:Nat} (h:k+k+1<l.length):((ox l k).set k ((ox l k).getD (l.length-1-k) aR)).set (l.length-1-k) ((ox l k).getD k aR)=ox l (k+1):=by
 have hl:=iW l k
 refine su (by rw[List.length_set,List.length_set,iW,iW]) fun j hj=>?_
 rw[List.length_set,List.length_set,hl] at hj
 rw[yj _ _ _ _ (by rw[List.length_set,hl];omega),yj _ _ _ _ (by rw[hl];omega),j9 l _ hj,j9 l _ hj,j9 l k (by omega),j9 l k (by omega)]
 by_cases h1:j=l.length-1-k
 ·subst h1
  rw[if_pos rfl,if_neg (by omega),if_pos (by omega)]
  congr 1
  omega
 ·rw[if_neg h1]
  by_cases h2:j=k
  ·subst h2
   rw[if_pos rfl,if_neg (by omega),if_pos (by omega)]
  ·rw[if_neg h2]
   by_cases h3:j<k\/l.length<=j+k
   ·rw[if_pos h3,if_pos (by omega)]
   ·rw[if_neg h3,if_neg (by omega)]
theorem cP.lenTop {l:List cS} {i r:Nat} {xs:List aQ} (h:cP l i r xs):xs.length<=i:=by
 induction h with
 |root h=>exact Nat.zero_le _
 |step hj _ _ ih=>rw[List.length_append,List.length_singleton];omega
def Jq:aX:=.box 118 [.nilsl, .nilsl, .int .i64 0, .nilsl, .nilsl, .int .i64 0, .nilsl]
theorem NV (p:ao) (s:az) (l:List cS) (i r:Nat) (xs:List aQ) (hc:cP l i r xs) (hi:i<l.length) (hl:l.length<=4000) (hw:bc (bu l r).c=false):
  ae Tryz.prog 45 [.pd (Le p s .top (.sl d6 pG l)), .int .i64 (i:Int)] (fun u=>u= .agg (bg (bu l r).c++[.sl aR cH xs])):=by
 have hxl:=hc.lenTop
 refine ae.endD ?_
 refine an.intro ab ac [] Tryz.func45 rfl (by decide) ?_
 conv=>whnf
 refine aE.loopF ab ac (fun z:Nat×List aQ=>z.1<l.length/\z.2.length+z.1<=i/\∃ys,cP l z.1 r ys/\xs=ys++z.2.reverse) (fun z=>[(1, .int .i64 (z.1:Int)),(5, .row 1000 z.2.length 3)]) (fun z=>[(1000,CL z.2),(4,Jq)]) (fun z=>z.1) (i,[]) ⟨hi,by simp,xs,hc,by simp⟩ ?_;conv=>whnf
 refine⟨aM.by_ [(1000, .nil 3),(4, .old 4)] _ 400 rfl (aa) (aa),?_⟩
 rintro⟨k,acc⟩ ⟨h1,h2,ys,h3,h4⟩
 dsimp only at h1 h2 h3 h4⊢
 conv=>whnf
 refine nI ?_
 rw[tN]
 conv=>whnf
 refine ah ?_ ?_<;>(intro g1;conv=>whnf)
 ·cases h3 with
  |root hs=>
   exfalso
   have hs':(l.getD _ d6).src=-1:=hs
   omega
  |@step _ j _ ys' hj hs h3'=>
   have hs':(l.getD k d6).src=(j:Int):=hs
   refine nI ?_
   rw[tN]
   conv=>whnf
   refine cA aR cH [(l.getD k d6).st] rfl ?_
   conv=>whnf
   refine cB [(l.getD k d6).st] rfl lI ?_
   conv=>whnf
   refine nI ?_
   rw[tN]
   conv=>whnf
   rw[hs']
   repeat' ((first|refine nI ?_|refine aI ?_|refine tI ?_|refine fI ?_|fail);conv=>whnf)
   refine⟨(j,acc++[(l.getD k d6).st]),?_,⟨by dsimp only;omega,by simp only[List.length_append,List.length_singleton];omega,ys',h3',?_⟩,by dsimp only;omega⟩
   ·dsimp only
    exact aM.by_ [(1000, .old 35),(4, .old 4)] _ 400 rfl (aa) (aa)
   ·rw[h4]
    simp
 ·have hkr:k=r/\xs=acc.reverse:=by
   cases h3 with
   |root hs=>exact⟨rfl,by simpa using h4⟩
   |step hj hs _=>
    exfalso
    have hs':(l.getD k d6).src=_:=hs
    omega
  obtain⟨rfl,hx⟩:=hkr
  refine aI ?_
  conv=>whnf
  refine aE.loopF ab ac (fun m:Nat=>m<=acc.length) (fun m=>[(6, .int .i64 (m:Int)),(7, .int .i64 ((acc.length:Int)-1-m))]) (fun m=>[(1000,CL (ox acc m)),(4,Jq)]) (fun m=>acc.length-m) 0 (Nat.zero_le _) ?_;conv=>whnf
  refine⟨by rw[C9];exact aM.by_ [(1000, .old 1000),(4, .old 4)] _ 400 rfl (aa) (aa),?_⟩
  rintro m hm
  conv=>whnf
  refine ah ?_ ?_<;>(intro g2;conv=>whnf)
  ·refine dI ?_
   conv=>whnf
   have hup:=Iu (l:=acc) (k:=m) (by omega)
   refine nI ?_
   rw[show((acc.length:Int)-1-(m:Int)).toNat=acc.length-1-m by omega]
   conv=>whnf
   refine nI ?_
   rw[tN]
   conv=>whnf
   refine nI ?_
   rw[tN]
   conv=>whnf
   refine ak ((ox acc m).getD (acc.length-1-m) aR) rfl ?_
   conv=>whnf
   refine nI ?_
   rw[show((acc.length:Int)-1-(m:Int)).toNat=acc.length-1-m by omega]
   conv=>whnf
   refine ak ((ox acc m).getD m aR) rfl ?_
   conv=>whnf
   repeat' ((first|refine nI ?_|refine aI ?_|refine tI ?_|refine fI ?_|fail);conv=>whnf)
   refine⟨m+1,?_,by omega,by dsimp only;omega⟩
   dsimp only
   rw[<-hup]
   exact aM.by_ [(1000, .old 1000),(4, .old 4)] _ 400 rfl (aa) (aa)
  ·have hrev:ox acc m=xs:=by rw[hx,Gf (by omega)]
   rw[hrev]
   have hlen:acc.length=xs.length:=by rw[hx,List.length_reverse]
   refine nI ?_
   rw[tN]
   conv=>whnf
   refine an.news 400 (mU 5 9 13 17) (fT (bu l k).c) (fS (bu l k).c) (iQ (bu l k).c hw) (aa) rfl gn ?_
   conv=>whnf
   rw[hlen]
   exact⟨[1000,1001,1002,1003,1004],5,rfl⟩
section
variable {p:ao} {q:bn} {s:az} {y:iV} {es:List (List gP)} {t:TS}
theorem Gg (l:List (List Nat)) (k:Nat):(l.map bM).getD k []=bM (l.getD k []):=by
 rw[gD,List.getElem?_map,gD]
 cases l[k]?<;>rfl
theorem yJ.part (h:yJ p q s y es t) {k x:Nat} (hk:k<t.inn.length):t.pt x=some k↔x∈t.inn.getD k []:=by
 rw[h.t.g.me]
 have e:t.inn[k]? =some (t.inn.getD k []):=by
  rw[gD,gL hk];rfl
 constructor
 ·rintro⟨l,h1,h2⟩
  rw[e] at h1
  cases h1
  exact h2
 ·exact fun h=>⟨_,e,h⟩
theorem yJ.msok (h:yJ p q s y es t) {k:Nat} (hk:k<t.inn.length):Lf es (t.inn.getD k [])/\0<(t.inn.getD k []).length:=by
 have hm:t.inn.getD k []∈t.inn:=aG [] hk
 have h1:=h.t.m _ hm
 refine⟨⟨Nat.le_trans h1.1 h.ok.n,h1.2⟩,?_⟩
 have:=h.t.g.ne _ hm
 cases e:t.inn.getD k [] with
 |nil=>rw[e] at this;exact absurd rfl this
 |cons a l=>exact Nat.zero_lt_succ _
theorem yJ.nofair (h:yJ p q s y es t) (hno:∀k,k<t.inn.length->∃x∈lL (s.n-s.f).toNat p.rules.length,Nr p s y es t (t.inn.getD k []) x):¬Nk p q s:=by
 intro hx
 obtain⟨i,hi,hs⟩:=(h.gph.any h.kp h.ha).1 hx
 obtain⟨k,hk⟩:=Option.ne_none_iff_exists'.1 (h.ha i hi)
 have hkl:k<t.inn.length:=h.kp.lt i k hk
 obtain⟨x,hx,hn⟩:=hno k hkl
 obtain⟨r,m,hr,hm,rfl⟩:=Bb.1 hx
 have hs:=hs r m hr (by omega)
 rw[hk] at hs
 rcases hs with ⟨j,_,h1,h2⟩|⟨j,x,j',_,h1,h2,h3,h4,h5⟩
 ·exact hn ⟨j,none⟩ ⟨(h.part hkl).1 h1,h2⟩
 ·exact hn ⟨j,some ⟨(j':Int),x⟩⟩ ⟨(h.part hkl).1 h1,h2,by rw[tN];show t.pt j'=t.pt j;rw[h1,h3],h4,h5⟩
end
def Lh:aX:=.box 41 [.nilsl, .nilsl, .int .i64 0, .nilsl, .nilsl, .int .i64 0, .nilsl, .nilsl]
def NW (p:ao) (q:bn) (s:az) (u:AV):Prop:=∃l is e,u= .tup [.agg (A' l), .bool is, .int .i64 e]/\MS p q s l is e
def OP (p:ao) (q:bn) (s:az) (u:AV):Prop:=NW p q s u\/∃e,u= .tup [.agg [.nilsl, .nilsl, .int .i64 0, .nilsl, .nilsl, .int .i64 0, .nilsl, .nilsl], .bool false, .int .i64 e]/\MS p q s m6 false e
theorem ae.ls {P:Program} {f:FuncId} {us:List AV} {p:ao} {q:bn} {s:az} (h:ae P f us (OP p q s)):ae P f us (NW p q s):=by
 refine ae.sub h ?_
 rintro u (h|⟨e,rfl,h⟩)
 ·obtain⟨l,is,e,rfl,h⟩:=h
  exact⟨_,⟨l,is,e,rfl,h⟩,aa,rfl⟩
 ·exact⟨_,⟨m6,false,e,rfl,h⟩,aa,rfl⟩
theorem Li {p:ao} {q:bn} {s:az} (S:fV p q s):(lL (s.n-s.f).toNat p.rules.length).length<=8000:=by
 have hsz:(1<=s.n/\s.n<=8)/\(0<=s.f/\s.f<=s.n):=by
  have h2:=dM S.siz.2
  omega
 have hle:=aF S.hp
 rw[qi]
 have:=Nat.mul_le_mul (show p.rules.length<=1000 by omega) (show(s.n-s.f).toNat<=8 by omega)
 omega
theorem Da {α:Type} {l:List α} {k:Nat} {d:α} (h:k<l.length):l.take (k+1)=l.take k++[l.getD k d]:=by
 rw[List.take_add_one,gL h,gD,gL h];rfl
theorem cP.rootTop {l:List cS} {i r:Nat} {xs:List aQ} (h:cP l i r xs):r<=i:=by
 induction h with
 |root h=>exact Nat.le_refl _
 |step hj _ _ ih=>omega
abbrev OQ:=Nat×List aQ×Nat
theorem sL (p:ao) (q:bn) (s:az) (S:fV p q s) (hkd:q.kind=2):ae Tryz.prog 19 [.agg (bf p), .agg (eh q), .agg (b7 s)] (NW p q s):=by
 refine ae.ls ?_
 refine ae.endD ?_
 refine an.introW ab [] Tryz.func19 rfl (by decide) ?_
 dsimp only[mv,List.append,List.length,Nat.sub]
 refine aE.seqC ab ac ?_
 conv=>whnf
 refine am rfl ?_
 conv=>whnf
 refine am rfl ?_
 conv=>whnf
 refine am rfl ?_
 conv=>whnf
 refine aZ ab ac _ _ _ _ ?_
 conv=>whnf
 refine an.of_pure (n:=5) (Gc p q s S) rfl ?_
 rintro _ (⟨hno,rfl⟩|⟨hok,y,es,t,h,rfl⟩)
 ·conv=>whnf
  refine tI ?_
  conv=>whnf
  exact⟨[],5, .inr ⟨4,rfl,⟨fun h=>absurd h hno,fun _=>⟨rfl,rfl⟩⟩,(fun h=>nomatch h),fun _=>rfl⟩⟩
 conv=>whnf
 refine fI ?_
 conv=>whnf
 have hS:=fun k (hk:k<t.inn.length)=>h.msok hk
 have hG:=h.gph
 have hsz:dB p q s=0:=S.hz
 have hil:=h.t.n
 have hn:=h.ok.n
 have hll:(t.inn.map bM).length=t.inn.length:=List.length_map _
 have hs2:(lL (s.n-s.f).toNat p.rules.length).length<=8000:=Li S
 have hmem:∀r i:Nat,r<p.rules.length->(i:Int)<s.n-s.f->((r:Int),(i:Int))∈lL (s.n-s.f).toNat p.rules.length:=fun r i hr hi=>Bb.2 ⟨r,i,hr,by omega,rfl⟩
 refine aE.loopF ab ac (fun k:Nat=>k<=t.inn.length/\∀j,j<k->∃x∈lL (s.n-s.f).toNat p.rules.length,Nr p s y es t (t.inn.getD j []) x) (fun k=>[(37, .int .i64 (k:Int))]) (fun _=>[(6,Lh)]) (fun k=>t.inn.length-k) 0 ⟨Nat.zero_le _,fun j hj=>absurd hj (Nat.not_lt_zero _)⟩ ?_;conv=>whnf
 refine⟨aM.by_ [(6, .old 6)] _ 400 rfl (aa) (aa),?_⟩
 rintro k ⟨hk,hno⟩
 conv=>whnf
 refine ah ?_ ?_<;>(intro g1;conv=>whnf)
 ·have hkl:k<t.inn.length:=by omega
  refine nI ?_
  rw[tN,Gg]
  obtain⟨hms,hpos⟩:=hS k hkl
  have hpart:=fun x=>h.part (x:=x) hkl
  obtain⟨ms,ems⟩:∃ms,t.inn.getD k []=ms:=⟨_,rfl⟩
  rw[ems] at hms hpos hpart⊢
  have hml:=eL ms
  conv=>whnf
  refine an.of_pure (n:=5) (C6 h S ms hms) rfl ?_
  rintro _ (⟨gs,hgl,hg,rfl⟩|⟨hex,rfl⟩)
  case inr=>
   conv=>whnf
   repeat' ((first|refine nI ?_|refine aI ?_|refine tI ?_|refine fI ?_|fail);conv=>whnf)
   refine⟨k+1,aM.by_ [(6, .old 6)] _ 400 rfl (aa) (aa),⟨by omega,fun j hj=>?_⟩,by dsimp only;omega⟩
   by_cases e:j=k
   ·subst e;rw[ems];exact hex
   ·exact hno j (by omega)
  obtain⟨st,est⟩:∃st,ms.getD 0 0=st:=⟨_,rfl⟩
  have hst:st∈ms:=by rw[<-est];exact dX hpos
  have hstl:=hms.lt st hst
  have hat:(bM ms).getD 0 0=(st:Int):=by rw[js,est]
  conv=>whnf
  refine nI ?_
  rw[show(0:Int).toNat=0 from rfl,hat]
  conv=>whnf
  have hV:∀x∈ms,x<es.length:=hms.lt
  have hpst:=(hpart st).2 hst
  refine aE.loopF ab ac (fun z:OQ=>z.1<=gs.length/\zX p q s (fun i=>i<es.length) (fun i=>(bu y.1 i).c) t.pt st ((lL (s.n-s.f).toNat p.rules.length).take z.1) z.2.1 z.2.2/\z.2.1.length<=z.1*4001) (fun z=>[(16, .int .i64 (z.2.2:Int)),(17, .row 1000 z.2.1.length 3),(19, .top),(55, .int .i64 (z.1:Int))]) (fun z=>[(6,Lh),(1000,CL z.2.1)]) (fun z=>gs.length-z.1) (0,[],st) ⟨Nat.zero_le _,zX.zero hstl,Nat.zero_le _⟩ ?_;conv=>whnf
  refine⟨aM.by_ [(6, .old 6),(1000, .nil 3)] _ 400 rfl (aa) (aa),?_⟩
  rintro⟨j,lp,cur⟩ ⟨hj,hL,hlen⟩
  dsimp only at hj hL hlen⊢
  conv=>whnf
  refine ah ?_ ?_<;>(intro g2;conv=>whnf)
  ·have hjl:j<gs.length:=by omega
   have hsv:=hg j hjl
   have htk:(lL (s.n-s.f).toNat p.rules.length).take (j+1)=(lL (s.n-s.f).toNat p.rules.length).take j++[(lL (s.n-s.f).toNat p.rules.length).getD j (0,0)]:=Da (by omega)
   obtain⟨g,eg⟩:∃g,gs.getD j v8=g:=⟨_,rfl⟩
   rw[eg] at hsv
   obtain⟨gi,gz⟩:=g
   obtain⟨hgm,hgs⟩:=hsv
   have hgm:gi∈ms:=hgm
   have hgl2:=hV gi hgm
   have hpg:t.pt gi=t.pt cur:=by rw[(hpart gi).2 hgm,hL.v.2,hpst]
   have hmul:j*4001<=8000*4001:=Nat.mul_le_mul_right _ (by omega)
   refine nI ?_
   rw[tN,eg]
   cases gz with
   |none=>
    conv=>whnf
    refine an.of_pure (n:=5) (Ge h cur gi hL.v.1 hgl2 hpg) rfl ?_
    rintro _ ⟨l1,hw1,hl1,rfl⟩
    have hL1:=hL.go (j:=gi) ⟨hgl2,by rw[(hpart gi).2 hgm,hpst]⟩ hw1
    have hlen1:(lp++l1).length<=j*4001+4000:=by rw[List.length_append];omega
    conv=>whnf
    refine cB l1 rfl (by dsimp only;omega) ?_
    conv=>whnf
    have hL2:=hL1.free (k:=(lL (s.n-s.f).toNat p.rules.length).getD j (0,0)) hgs
    rw[<-htk] at hL2
    repeat' ((first|refine nI ?_|refine aI ?_|refine tI ?_|refine fI ?_|fail);conv=>whnf)
    refine⟨(j+1,lp++l1,gi),?_,⟨by dsimp only;omega,hL2,by dsimp only;rw[Nat.add_mul];omega⟩,by dsimp only;omega⟩
    dsimp only
    exact aM.by_ [(6, .old 6),(1000, .old 65)] _ 400 rfl (aa) (aa)
   |some e=>
    obtain⟨he1,he2,he3,he4⟩:=hgs
    have he1:e∈es.getD gi []:=he1
    have he2:t.pt e.to.toNat=t.pt gi:=he2
    obtain⟨z,x,rfl,hz⟩:∃(z:Nat) (x:aQ),e=⟨(z:Int),x⟩/\z<es.length:=by
     obtain⟨z,h1,h2⟩:=h.ok.e gi e he1
     obtain⟨a,b⟩:=e
     have h1:a=(z:Int):=h1
     exact⟨z,b,by rw[h1],h2⟩
    conv=>whnf
    refine an.of_pure (n:=5) (Ge h cur gi hL.v.1 hgl2 hpg) rfl ?_
    rintro _ ⟨l1,hw1,hl1,rfl⟩
    have hL1:=hL.go (j:=gi) ⟨hgl2,by rw[(hpart gi).2 hgm,hpst]⟩ hw1
    have hlen1:(lp++l1).length<=j*4001+4000:=by rw[List.length_append];omega
    conv=>whnf
    refine cB l1 rfl (by dsimp only;omega) ?_
    conv=>whnf
    have hL2:=hL1.took hG (j:=z) (x:=x) he1 (by rw[show t.pt z=t.pt gi from he2,(hpart gi).2 hgm,hpst]) ⟨he3,he4⟩
    rw[<-htk] at hL2
    refine cA aR cH [x] rfl ?_
    conv=>whnf
    refine cB [x] rfl (by dsimp only[List.length_cons,List.length_nil];omega) ?_
    conv=>whnf
    repeat' ((first|refine nI ?_|refine aI ?_|refine tI ?_|refine fI ?_|fail);conv=>whnf)
    refine⟨(j+1,(lp++l1)++[x],z),?_,⟨by dsimp only;omega,hL2,by dsimp only;rw[List.length_append,List.length_singleton,Nat.add_mul];omega⟩,by dsimp only;omega⟩
    dsimp only
    exact aM.by_ [(6, .old 6),(1000, .old 78)] _ 400 rfl (aa) (aa)
  ·obtain rfl:j=gs.length:=by omega
   have hmul:gs.length*4001<=8000*4001:=Nat.mul_le_mul_right _ (by omega)
   refine an.of_pure (n:=5) (Ge h cur st hL.v.1 hstl hL.v.2.symm) rfl ?_
   rintro _ ⟨l1,hw1,hl1,rfl⟩
   have hL1:=hL.go (j:=st) ⟨hstl,rfl⟩ hw1
   have hlen1:(lp++l1).length<=gs.length*4001+4000:=by rw[List.length_append];omega
   rw[hgl,List.take_length] at hL1
   obtain⟨r,xs,hc⟩:=cP.ex h.x.se.og st (by rw[<-h.l];exact hstl)
   have hyl:st<y.1.length:=by rw[<-h.l];exact hstl
   have hrl:r<y.1.length:=Nat.lt_of_le_of_lt hc.rootTop hyl
   have hr:=h.x.se.og.rdy S hrl
   obtain⟨c1,c2,c3⟩:=h.x.chain hc hyl
   have hxl:=hc.lenTop
   conv=>whnf
   refine cB l1 rfl (by dsimp only;omega) ?_
   conv=>whnf
   refine an.of_pure (n:=5) (NV p s y.1 st r xs hc hyl (by rw[<-h.l];exact hn) hr.wide) rfl ?_
   rintro _ rfl
   have hlas:te p q s (c8 q) ⟨(bu y.1 r).c,xs,lp++l1⟩:=hL1.done hsz hkd c1 c2 c3 hmem
   conv=>whnf
   have hisx:Nk p q s:=yl hlas
   exact⟨[90],5, .inl ⟨⟨(bu y.1 r).c,xs,lp++l1⟩,true,0,by rw[<-List.length_append];rfl,⟨fun _=>⟨rfl,⟨fun _=>hisx,fun _=>rfl⟩⟩,fun h=>absurd hok h⟩,(fun _=>⟨hlas,hr.wide,by dsimp only;omega,by dsimp only;omega⟩),fun h=>nomatch h⟩⟩
 ·obtain rfl:k=t.inn.length:=by omega
  have hnf:=h.nofair hno
  exact⟨[],5, .inr ⟨0,rfl,⟨fun _=>⟨rfl,⟨fun h=>(nomatch h),fun h=>absurd h hnf⟩⟩,fun h=>absurd hok h⟩,(fun h=>nomatch h),fun _=>rfl⟩⟩
end
section
set_option maxRecDepth 100000
set_option maxHeartbeats 16000000
structure Jr (p:ao) (q:bn) (s:az) (l:um) (is:Bool) (e:Int):Prop where
 bad:dB p q s≠0->l=m6/\is=false/\e=dB p q s
 kind:dB p q s=0->q.kind≠2->l=m6/\is=false/\e=7
 ok:dB p q s=0->q.kind=2->MS p q s l is e
def NY (p:ao) (q:bn) (s:az) (u:AV):Prop:=∃l is e,u= .tup [.agg (A' l), .bool is, .int .i64 e]/\Jr p q s l is e
def OS (p:ao) (q:bn) (s:az) (u:AV):Prop:=NY p q s u\/∃e,u= .tup [.agg [.nilsl, .nilsl, .int .i64 0, .nilsl, .nilsl, .int .i64 0, .nilsl, .nilsl], .bool false, .int .i64 e]/\Jr p q s m6 false e
theorem ae.fl {P:Program} {f:FuncId} {us:List AV} {p:ao} {q:bn} {s:az} (h:ae P f us (OS p q s)):ae P f us (NY p q s):=by
 refine ae.sub h ?_
 rintro u (h|⟨e,rfl,h⟩)
 ·obtain⟨l,is,e,rfl,h⟩:=h
  exact⟨_,⟨l,is,e,rfl,h⟩,aa,rfl⟩
 ·exact⟨_,⟨m6,false,e,rfl,h⟩,aa,rfl⟩
theorem z2 (p:ao) (q:bn) (s:az) (hp:¬b9 p) (hq:¬eU q):ae Tryz.prog 7 [.agg (bf p), .agg (eh q), .agg (b7 s)] (NY p q s):=by
 refine ae.fl ?_
 refine ae.intro ab ac Tryz.func7 rfl (by decide) ?_;(conv=>whnf)
 refine am rfl ?_
 conv=>whnf
 refine am rfl ?_
 conv=>whnf
 refine am rfl ?_
 conv=>whnf
 (refine oP (CG p q s hp hq) ?_;conv=>whnf)
 refine ah ?_ ?_<;>(intro h1;conv=>whnf)
 ·exact⟨.inr ⟨dB p q s,rfl,fun _=>⟨rfl,rfl,rfl⟩,fun h=>absurd h h1,fun h=>absurd h h1⟩,rfl⟩
 have h0:dB p q s=0:=by omega
 refine ah ?_ ?_<;>(intro h2;conv=>whnf)
 ·exact⟨.inr ⟨7,rfl,fun h=>absurd h0 h,fun _ _=>⟨rfl,rfl,rfl⟩,fun _ h=>absurd h h2⟩,rfl⟩
 have h2':q.kind=2:=by omega
 refine an.of_pure (n:=5) (sL p q s ⟨hp,hq,h0⟩ h2') rfl ?_
 rintro _ ⟨l,is,e,rfl,hL⟩
 conv=>whnf
 exact⟨.inl ⟨l,is,e,rfl,fun h=>absurd h0 h,fun _ h=>absurd h2' h,fun _ _=>hL⟩,rfl⟩
noncomputable def ic (p:ao) (q:bn) (m kind:Int):Int:=if cq p q≠0 then cq p q else if 8<m then 1 else if q.kind≠kind then 7 else 0
theorem z3 (p:ao) (q:bn) (m kind:Int) (hp:¬b9 p) (hq:¬eU q):ae Tryz.prog 34 [.agg (bf p), .agg (eh q), .int .i64 m, .int .i64 kind] (fun u=>u= .int .i64 (ic p q m kind)):=by
 have he:=ic.eq_1 p q m kind
 refine ae.intro ab ac Tryz.func34 rfl (by decide) ?_;(conv=>whnf)
 refine am rfl ?_
 conv=>whnf
 refine am rfl ?_
 conv=>whnf
 (refine oP (o1 p q (iO hp) (rG hq)) ?_;conv=>whnf)
 refine ah ?_ ?_<;>(intro h1;conv=>whnf)
 ·rw[if_pos h1] at he;exact⟨aj he.symm,rfl⟩
 rw[if_neg h1] at he
 refine ah ?_ ?_<;>(intro h2;conv=>whnf)
 ·rw[if_pos h2] at he;exact⟨aj he.symm,rfl⟩
 rw[if_neg h2] at he
 refine ah ?_ ?_<;>(intro h3;conv=>whnf)
 ·rw[if_pos h3] at he;exact⟨aj he.symm,rfl⟩
 ·rw[if_neg h3] at he;exact⟨aj he.symm,rfl⟩
theorem Gh {p:ao} {q:bn} {m:Int} (h:ic p q m 2=0):cq p q=0/\m<=8/\q.kind=2:=by
 unfold ic at h
 by_cases h1:cq p q≠0
 ·rw[if_pos h1] at h;exact absurd h h1
 rw[if_neg h1] at h
 by_cases h2:8<m
 ·rw[if_pos h2] at h;omega
 rw[if_neg h2] at h
 by_cases h3:q.kind≠2
 ·rw[if_pos h3] at h;omega
 ·exact⟨by omega,by omega,by omega⟩
theorem uD {p:ao} {q:bn} (h:cq p q=0):bD p=0:=by
 by_cases hh:bD p=0
 ·exact hh
 ·exfalso
  unfold cq at h
  rw[if_pos hh] at h
  exact hh h
theorem Gi {l:List az} {k:Nat} (h:k<l.length):l.drop k=l.getD k fF::l.drop (k+1):=by
 have e:l.getD k fF=l[k]:=by rw[gD,gL h];rfl
 rw[List.drop_eq_getElem_cons h,e]
def Js:aX:=.box 32 [.int .i64 0, .int .i64 0, .int .i64 0]
def NZ (P:az->um->Bool->Int->Prop):AV->Prop:=fun u=>∃z l is e,u= .tup (.agg (b7 z):: .agg (A' l)::[.bool is, .int .i64 e])/\P z l is e
def N0:List AV:=[.nilsl, .nilsl, .int .i64 0, .nilsl, .nilsl, .int .i64 0, .nilsl, .nilsl]
def OT (P:az->um->Bool->Int->Prop):AV->Prop:=fun u=>NZ P u\/∃is e,u= .tup (.agg (b7 fF):: .agg N0::[.bool is, .int .i64 e])/\P fF m6 is e
theorem ae.slT {f:FuncId} {args:List AV} {Q:az->um->Bool->Int->Prop} (h:ae Tryz.prog f args (OT Q)):ae Tryz.prog f args (NZ Q):=by
 refine ae.sub h ?_
 rintro u (⟨z,r,is,e,rfl,hQ⟩|⟨is,e,rfl,hQ⟩)
 ·exact⟨_,⟨z,r,is,e,rfl,hQ⟩,aa,rfl⟩
 ·exact⟨_,⟨fF,m6,is,e,rfl,hQ⟩,aa,rfl⟩
structure Jt (p:ao) (q:bn) (m:Int) (z:az) (l:um) (is:Bool) (e:Int):Prop where
 bad:ic p q m 2≠0->z=fF/\l=m6/\is=false/\e=ic p q m 2
 ok:ic p q m 2=0->Jm p q (oB p m.toNat) z l is e
theorem sM (p:ao) (q:bn) (m:Int) (hp:¬b9 p) (hq:¬eU q):ae Tryz.prog 13 [.agg (bf p), .agg (eh q), .int .i64 m] (NZ (Jt p q m)):=by
 refine ae.slT ?_
 have hC:=z3 p q m 2 hp hq
 refine ae.intro ab ac Tryz.func13 rfl (by decide) ?_;(conv=>whnf)
 refine am rfl ?_
 conv=>whnf
 refine am rfl ?_
 conv=>whnf
 (refine oP (hC) ?_;conv=>whnf)
 refine ah ?_ ?_<;>(intro h1;conv=>whnf)
 ·exact⟨.inr ⟨false,ic p q m 2,rfl,fun _=>⟨rfl,rfl,rfl,rfl⟩,fun h=>absurd h h1⟩,rfl⟩
 have h0:ic p q m 2=0:=by omega
 obtain⟨g1,g2,g3⟩:=Gh h0
 have fin:∀{z r is e},Jm p q (oB p m.toNat) z r is e->Jt p q m z r is e:=fun hB=>⟨fun h=>absurd h0 h,fun _=>hB⟩
 have hz:∀z∈oB p m.toNat,fV p q z:=fun z hz=>⟨hp,hq,F8 g1 (by omega) hz⟩
 (refine oP (K6 p m hp (uD g1) g2) ?_;conv=>whnf)
 have hZl:=ow p m.toNat (by omega)
 have hZl:(oB p m.toNat).length<=1000:=by omega
 generalize oB p m.toNat=Z at fin hz hZl⊢
 refine aE.loopF ab ac (fun k:Nat=>k<=Z.length/\∀t r is e,Jm p q (Z.drop k) t r is e->Jm p q Z t r is e) (fun k=>[(29, .int .i64 (k:Int))]) (fun _=>[(6,Js),(7,Lh)]) (fun k=>Z.length-k) 0 ⟨Nat.zero_le _,fun t r is e h=>h⟩ ?_;conv=>whnf
 refine⟨sI,?_⟩
 rintro k ⟨hk,hup⟩
 conv=>whnf
 refine ah ?_ ?_<;>(intro h2;conv=>whnf)
 ·have hlt:k<Z.length:=by omega
  have hd:=Gi hlt
  rw[hd] at hup
  have S:=hz _ (aG fF hlt)
  refine nI ?_
  rw[tN]
  conv=>whnf
  generalize Z.getD k fF=z at hup S⊢
  refine an.of_pure (n:=5) (sL p q z S g3) rfl ?_
  rintro _ ⟨r,is,e,rfl,hB⟩
  by_cases he:e=0
  case neg=>
   conv=>whnf
   refine dH he ?_
   conv=>whnf
   refine⟨.inr ⟨false,e,rfl,fin (hup _ _ _ _ ?_)⟩,rfl⟩
   exact⟨r,is,e,hB, .inl ⟨he,rfl,rfl,rfl,rfl⟩⟩
  subst he
  cases is with
  |true=>
   conv=>whnf
   refine fI ?_
   conv=>whnf
   refine LW [(12,12),(13,13),(6,6),(7,7)] (by decide+kernel) ?_
   conv=>whnf
   exact⟨.inl ⟨z,r,true,0,rfl,fin (hup _ _ _ _ ⟨r,true,0,hB, .inr (.inl ⟨rfl,rfl,rfl,rfl,rfl,rfl⟩)⟩)⟩,rfl⟩
  |false=>
   conv=>whnf
   refine fI ?_
   conv=>whnf
   repeat' ((first|refine nI ?_|refine aI ?_|refine tI ?_|refine fI ?_|fail);conv=>whnf)
   exact⟨k+1,sI,⟨by omega,fun t r' is e h=>hup _ _ _ _ ⟨r,false,0,hB, .inr (.inr ⟨rfl,rfl,h⟩)⟩⟩,by dsimp only;omega⟩
 ·refine⟨.inr ⟨false,0,rfl,fin (hup _ _ _ _ ?_)⟩,rfl⟩
  rw[List.drop_of_length_le (by omega)]
  exact⟨rfl,rfl,rfl,rfl⟩
end
end Go.Proofs.YtokjgegkhlkopaaGreatDoor
