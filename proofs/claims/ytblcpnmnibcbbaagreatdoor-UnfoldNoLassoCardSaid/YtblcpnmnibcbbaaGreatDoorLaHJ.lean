import Derived.Test.YtblcpnmnibcbbaaGreatDoorLaG
import Derived.Test.YtblcpnmnibcbbaaGreatDoorLaE
set_option linter.unusedVariables false
set_option linter.unusedSimpArgs false
namespace Go.Proofs.YtblcpnmnibcbbaaGreatDoor
section
set_option maxRecDepth 100000
set_option maxHeartbeats 16000000
def LT (l:List be) (k:Nat):List be:=(List.range l.length).map fun j=>if j<k\/l.length<=j+k then l.getD (l.length-1-j) bm else l.getD j bm
theorem LQ (l:List be) (k:Nat):(LT l k).length=l.length:=by simp[LT]
theorem LR (l:List be) (k:Nat) {j:Nat} (h:j<l.length):(LT l k).getD j bm=if j<k\/l.length<=j+k then l.getD (l.length-1-j) bm else l.getD j bm:=by
 unfold LT
 rw[gD,List.getElem?_map,List.getElem?_range h]
 rfl
theorem LU (l:List be):LT l 0=l:=by
 refine qw (LQ l 0) fun j hj=>?_
 rw[LQ] at hj
 rw[LR l 0 hj,if_neg (by omega)]
theorem LV {l:List be} {k:Nat} (h:l.length<=k+k+1):LT l k=l.reverse:=by
 refine qw (by rw[LQ,List.length_reverse]) fun j hj=>?_
 rw[LQ] at hj
 have e:l.reverse.getD j bm=l.getD (l.length-1-j) bm:=by
  rw[gD,gD,List.getElem?_reverse hj]
 rw[LR l k hj,e]
 split
 ·rfl
 ·congr 1
  omega
theorem LW {l:List be} {k:Nat} (h:k+k+1<l.length):((LT l k).set k ((LT l k).getD (l.length-1-k) bm)).set (l.length-1-k) ((LT l k).getD k bm)=LT l (k+1):=by
 have hl:=LQ l k
 refine qw (by rw[List.length_set,List.length_set,LQ,LQ]) fun j hj=>?_
 rw[List.length_set,List.length_set,hl] at hj
 rw[vR _ _ _ _ (by rw[List.length_set,hl];omega),vR _ _ _ _ (by rw[hl];omega),LR l _ hj,LR l _ hj,LR l k (by omega),LR l k (by omega)]
 by_cases h1:j=l.length-1-k
 ·subst h1
  rw[if_pos rfl,if_neg (by omega),if_pos (by omega)]
  congr 1
  omega
 ·rw[if_neg h1]
  by_cases h2:j=k
  ·subst h2
   rw[if_pos rfl,if_neg (by omega),if_pos (by omega)]
  ·rw[if_neg h2]
   by_cases h3:j<k\/l.length<=j+k
   ·rw[if_pos h3,if_pos (by omega)]
   ·rw[if_neg h3,if_neg (by omega)]
theorem dj.lenTop {l:List dy} {i r:Nat} {xs:List be} (h:dj l i r xs):xs.length<=i:=by
 induction h with
 |root h=>exact Nat.zero_le _
 |step hj _ _ ih=>rw[List.length_append,List.length_singleton];omega
def LX:bj:=.box 121 [.nilsl, .nilsl, .int .i64 0, .nilsl, .nilsl, .int .i64 0, .nilsl]
theorem LP (p:aq) (s:aB) (l:List dy) (i r:Nat) (xs:List be) (hc:dj l i r xs) (hi:i<l.length) (hl:l.length<=4000) (hw:aX (ce l r).c=false):
  aa Tryz.prog 53 [.pd (K5 p s .top (.sl hZ Cu l)), .int .i64 (i:Int)] (fun u=>u= .agg (aY (ce l r).c++[.sl bm cF xs])):=by
 have hxl:=hc.lenTop
 refine aa.endD ?_
 refine ar.intro ab ac [] Tryz.func53 rfl (by decide) ?_
 conv=>whnf
 refine aR.loopF ab ac (fun z:Nat×List be=>z.1<l.length/\z.2.length+z.1<=i/\∃ys,dj l z.1 r ys/\xs=ys++z.2.reverse) (fun z=>[(1, .int .i64 (z.1:Int)),(5, .row 1000 z.2.length 3)]) (fun z=>[(1000,Gf z.2),(4,LX)]) (fun z=>z.1) (i,[]) ⟨hi,by simp,xs,hc,by simp⟩ ?_;conv=>whnf
 refine⟨bE.by_ [(1000, .nil 3),(4, .old 4)] _ 400 rfl (ai) (ai),?_⟩
 rintro⟨k,acc⟩ ⟨h1,h2,ys,h3,h4⟩
 dsimp only at h1 h2 h3 h4⊢
 conv=>whnf
 refine nI ?_
 rw[tN]
 conv=>whnf
 refine ag ?_ ?_<;>(intro g1;conv=>whnf)
 ·cases h3 with
  |root hs=>
   exfalso
   have hs':(l.getD _ hZ).src=-1:=hs
   omega
  |@step _ j _ ys' hj hs h3'=>
   have hs':(l.getD k hZ).src=(j:Int):=hs
   refine nI ?_
   rw[tN]
   conv=>whnf
   refine c8 bm cF [(l.getD k hZ).st] rfl ?_
   conv=>whnf
   refine eC [(l.getD k hZ).st] rfl lI ?_
   conv=>whnf
   refine nI ?_
   rw[tN]
   conv=>whnf
   rw[hs']
   repeat' ((first|refine nI ?_|refine aI ?_|refine tI ?_|refine fI ?_|fail);conv=>whnf)
   refine⟨(j,acc++[(l.getD k hZ).st]),?_,⟨by dsimp only;omega,by simp only[List.length_append,List.length_singleton];omega,ys',h3',?_⟩,by dsimp only;omega⟩
   ·dsimp only
    exact bE.by_ [(1000, .old 35),(4, .old 4)] _ 400 rfl (ai) (ai)
   ·rw[h4]
    simp
 ·have hkr:k=r/\xs=acc.reverse:=by
   cases h3 with
   |root hs=>exact⟨rfl,by simpa using h4⟩
   |step hj hs _=>
    exfalso
    have hs':(l.getD k hZ).src=_:=hs
    omega
  obtain⟨rfl,hx⟩:=hkr
  refine aI ?_
  conv=>whnf
  refine aR.loopF ab ac (fun m:Nat=>m<=acc.length) (fun m=>[(6, .int .i64 (m:Int)),(7, .int .i64 ((acc.length:Int)-1-m))]) (fun m=>[(1000,Gf (LT acc m)),(4,LX)]) (fun m=>acc.length-m) 0 (Nat.zero_le _) ?_;conv=>whnf
  refine⟨by rw[LU];exact bE.by_ [(1000, .old 1000),(4, .old 4)] _ 400 rfl (ai) (ai),?_⟩
  rintro m hm
  conv=>whnf
  refine ag ?_ ?_<;>(intro g2;conv=>whnf)
  ·refine dI ?_
   conv=>whnf
   have hup:=LW (l:=acc) (k:=m) (by omega)
   refine nI ?_
   rw[show((acc.length:Int)-1-(m:Int)).toNat=acc.length-1-m by omega]
   conv=>whnf
   refine nI ?_
   rw[tN]
   conv=>whnf
   refine nI ?_
   rw[tN]
   conv=>whnf
   refine ak ((LT acc m).getD (acc.length-1-m) bm) rfl ?_
   conv=>whnf
   refine nI ?_
   rw[show((acc.length:Int)-1-(m:Int)).toNat=acc.length-1-m by omega]
   conv=>whnf
   refine ak ((LT acc m).getD m bm) rfl ?_
   conv=>whnf
   repeat' ((first|refine nI ?_|refine aI ?_|refine tI ?_|refine fI ?_|fail);conv=>whnf)
   refine⟨m+1,?_,by omega,by dsimp only;omega⟩
   dsimp only
   rw[<-hup]
   exact bE.by_ [(1000, .old 1000),(4, .old 4)] _ 400 rfl (ai) (ai)
  ·have hrev:LT acc m=xs:=by rw[hx,LV (by omega)]
   rw[hrev]
   have hlen:acc.length=xs.length:=by rw[hx,List.length_reverse]
   refine nI ?_
   rw[tN]
   conv=>whnf
   refine ar.news 400 (kD 5 9 13 17) (eW (ce l k).c) (eH (ce l k).c) (gW (ce l k).c hw) (ai) rfl fN ?_
   conv=>whnf
   rw[hlen]
   exact⟨[1000,1001,1002,1003,1004],5,rfl⟩
section
variable {p:aq} {q:bO} {s:aB} {y:mZ} {es:List (List GL)} {t:TS}
theorem LZ (l:List (List Nat)) (k:Nat):(l.map JN).getD k []=JN (l.getD k []):=by
 rw[gD,List.getElem?_map,gD]
 cases l[k]?<;>rfl
theorem K8.part (h:K8 p q s y es t) {k x:Nat} (hk:k<t.inn.length):t.pt x=some k↔x∈t.inn.getD k []:=by
 rw[h.t.g.me]
 have e:t.inn[k]? =some (t.inn.getD k []):=by
  rw[gD,gL hk];rfl
 constructor
 ·rintro⟨l,h1,h2⟩
  rw[e] at h1
  cases h1
  exact h2
 ·exact fun h=>⟨_,e,h⟩
theorem K8.msok (h:K8 p q s y es t) {k:Nat} (hk:k<t.inn.length):Lu es (t.inn.getD k [])/\0<(t.inn.getD k []).length:=by
 have hm:t.inn.getD k []∈t.inn:=bi [] hk
 have h1:=h.t.m _ hm
 refine⟨⟨Nat.le_trans h1.1 h.ok.n,h1.2⟩,?_⟩
 have:=h.t.g.ne _ hm
 cases e:t.inn.getD k [] with
 |nil=>rw[e] at this;exact absurd rfl this
 |cons a l=>exact Nat.zero_lt_succ _
theorem K8.nofair (h:K8 p q s y es t) (hno:∀k,k<t.inn.length->∃x∈lR (s.n-s.f).toNat p.rules.length,Lw p s y es t (t.inn.getD k []) x):¬JO p q s:=by
 intro hx
 obtain⟨i,hi,hs⟩:=(h.gph.any h.kp h.ha).1 hx
 obtain⟨k,hk⟩:=Option.ne_none_iff_exists'.1 (h.ha i hi)
 have hkl:k<t.inn.length:=h.kp.lt i k hk
 obtain⟨x,hx,hn⟩:=hno k hkl
 obtain⟨r,m,hr,hm,rfl⟩:=x4.1 hx
 have hs:=hs r m hr (by omega)
 rw[hk] at hs
 rcases hs with ⟨j,_,h1,h2⟩|⟨j,x,j',_,h1,h2,h3,h4,h5⟩
 ·exact hn ⟨j,none⟩ ⟨(h.part hkl).1 h1,h2⟩
 ·exact hn ⟨j,some ⟨(j':Int),x⟩⟩ ⟨(h.part hkl).1 h1,h2,by rw[tN];show t.pt j'=t.pt j;rw[h1,h3],h4,h5⟩
end
def L4:bj:=.box 41 [.nilsl, .nilsl, .int .i64 0, .nilsl, .nilsl, .int .i64 0, .nilsl, .nilsl]
def L3 (p:aq) (q:bO) (s:aB) (u:AV):Prop:=∃l is e,u= .tup [.agg (Cp l), .bool is, .int .i64 e]/\JA p q s l is e
def L5 (p:aq) (q:bO) (s:aB) (u:AV):Prop:=L3 p q s u\/∃e,u= .tup [.agg [.nilsl, .nilsl, .int .i64 0, .nilsl, .nilsl, .int .i64 0, .nilsl, .nilsl], .bool false, .int .i64 e]/\JA p q s E1 false e
theorem aa.ls {P:Program} {f:FuncId} {us:List AV} {p:aq} {q:bO} {s:aB} (h:aa P f us (L5 p q s)):aa P f us (L3 p q s):=by
 refine aa.sub h ?_
 rintro u (h|⟨e,rfl,h⟩)
 ·obtain⟨l,is,e,rfl,h⟩:=h
  exact⟨_,⟨l,is,e,rfl,h⟩,ai,rfl⟩
 ·exact⟨_,⟨E1,false,e,rfl,h⟩,ai,rfl⟩
theorem L7 {p:aq} {q:bO} {s:aB} (S:jI p q s):(lR (s.n-s.f).toNat p.rules.length).length<=8000:=by
 have hsz:(1<=s.n/\s.n<=8)/\(0<=s.f/\s.f<=s.n):=by
  have h2:=dY S.siz.2
  omega
 have hle:=aC S.hp
 rw[tk]
 have:=Nat.mul_le_mul (show p.rules.length<=1000 by omega) (show(s.n-s.f).toNat<=8 by omega)
 omega
theorem L8 {α:Type} {l:List α} {k:Nat} {d:α} (h:k<l.length):l.take (k+1)=l.take k++[l.getD k d]:=by
 rw[List.take_add_one,gL h,gD,gL h];rfl
theorem dj.rootTop {l:List dy} {i r:Nat} {xs:List be} (h:dj l i r xs):r<=i:=by
 induction h with
 |root h=>exact Nat.le_refl _
 |step hj _ _ ih=>omega
abbrev L6:=Nat×List be×Nat
theorem LY (p:aq) (q:bO) (s:aB) (S:jI p q s) (hkd:q.kind=2):aa Tryz.prog 22 [.agg (bc p), .agg (gb q), .agg (bW s)] (L3 p q s):=by
 refine aa.ls ?_
 refine aa.endD ?_
 refine ar.introW ab [] Tryz.func22 rfl (by decide) ?_
 dsimp only[oi,List.append,List.length,Nat.sub]
 refine aR.seqC ab ac ?_
 conv=>whnf
 refine am rfl ?_
 conv=>whnf
 refine am rfl ?_
 conv=>whnf
 refine am rfl ?_
 conv=>whnf
 refine bw ab ac _ _ _ _ ?_
 conv=>whnf
 refine ar.of_pure (n:=5) (K4 p q s S) rfl ?_
 rintro _ (⟨hno,rfl⟩|⟨hok,y,es,t,h,rfl⟩)
 ·conv=>whnf
  refine tI ?_
  conv=>whnf
  exact⟨[],5, .inr ⟨4,rfl,⟨fun h=>absurd h hno,fun _=>⟨rfl,rfl⟩⟩,(fun h=>nomatch h),fun _=>rfl⟩⟩
 conv=>whnf
 refine fI ?_
 conv=>whnf
 have hS:=fun k (hk:k<t.inn.length)=>h.msok hk
 have hG:=h.gph
 have hsz:fO p q s=0:=S.hz
 have hil:=h.t.n
 have hn:=h.ok.n
 have hll:(t.inn.map JN).length=t.inn.length:=List.length_map _
 have hs2:(lR (s.n-s.f).toNat p.rules.length).length<=8000:=L7 S
 have hmem:∀r i:Nat,r<p.rules.length->(i:Int)<s.n-s.f->((r:Int),(i:Int))∈lR (s.n-s.f).toNat p.rules.length:=fun r i hr hi=>x4.2 ⟨r,i,hr,by omega,rfl⟩
 refine aR.loopF ab ac (fun k:Nat=>k<=t.inn.length/\∀j,j<k->∃x∈lR (s.n-s.f).toNat p.rules.length,Lw p s y es t (t.inn.getD j []) x) (fun k=>[(37, .int .i64 (k:Int))]) (fun _=>[(6,L4)]) (fun k=>t.inn.length-k) 0 ⟨Nat.zero_le _,fun j hj=>absurd hj (Nat.not_lt_zero _)⟩ ?_;conv=>whnf
 refine⟨bE.by_ [(6, .old 6)] _ 400 rfl (ai) (ai),?_⟩
 rintro k ⟨hk,hno⟩
 conv=>whnf
 refine ag ?_ ?_<;>(intro g1;conv=>whnf)
 ·have hkl:k<t.inn.length:=by omega
  refine nI ?_
  rw[tN,LZ]
  obtain⟨hms,hpos⟩:=hS k hkl
  have hpart:=fun x=>h.part (x:=x) hkl
  obtain⟨ms,ems⟩:∃ms,t.inn.getD k []=ms:=⟨_,rfl⟩
  rw[ems] at hms hpos hpart⊢
  have hml:=J5 ms
  conv=>whnf
  refine ar.of_pure (n:=5) (Ls h S ms hms) rfl ?_
  rintro _ (⟨gs,hgl,hg,rfl⟩|⟨hex,rfl⟩)
  case inr=>
   conv=>whnf
   repeat' ((first|refine nI ?_|refine aI ?_|refine tI ?_|refine fI ?_|fail);conv=>whnf)
   refine⟨k+1,bE.by_ [(6, .old 6)] _ 400 rfl (ai) (ai),⟨by omega,fun j hj=>?_⟩,by dsimp only;omega⟩
   by_cases e:j=k
   ·subst e;rw[ems];exact hex
   ·exact hno j (by omega)
  obtain⟨st,est⟩:∃st,ms.getD 0 0=st:=⟨_,rfl⟩
  have hst:st∈ms:=by rw[<-est];exact nN hpos
  have hstl:=hms.lt st hst
  have hat:(JN ms).getD 0 0=(st:Int):=by rw[Lo,est]
  conv=>whnf
  refine nI ?_
  rw[show(0:Int).toNat=0 from rfl,hat]
  conv=>whnf
  have hV:∀x∈ms,x<es.length:=hms.lt
  have hpst:=(hpart st).2 hst
  refine aR.loopF ab ac (fun z:L6=>z.1<=gs.length/\zX p q s (fun i=>i<es.length) (fun i=>(ce y.1 i).c) t.pt st ((lR (s.n-s.f).toNat p.rules.length).take z.1) z.2.1 z.2.2/\z.2.1.length<=z.1*4001) (fun z=>[(16, .int .i64 (z.2.2:Int)),(17, .row 1000 z.2.1.length 3),(19, .top),(55, .int .i64 (z.1:Int))]) (fun z=>[(6,L4),(1000,Gf z.2.1)]) (fun z=>gs.length-z.1) (0,[],st) ⟨Nat.zero_le _,zX.zero hstl,Nat.zero_le _⟩ ?_;conv=>whnf
  refine⟨bE.by_ [(6, .old 6),(1000, .nil 3)] _ 400 rfl (ai) (ai),?_⟩
  rintro⟨j,lp,cur⟩ ⟨hj,hL,hlen⟩
  dsimp only at hj hL hlen⊢
  conv=>whnf
  refine ag ?_ ?_<;>(intro g2;conv=>whnf)
  ·have hjl:j<gs.length:=by omega
   have hsv:=hg j hjl
   have htk:(lR (s.n-s.f).toNat p.rules.length).take (j+1)=(lR (s.n-s.f).toNat p.rules.length).take j++[(lR (s.n-s.f).toNat p.rules.length).getD j (0,0)]:=L8 (by omega)
   obtain⟨g,eg⟩:∃g,gs.getD j Ln=g:=⟨_,rfl⟩
   rw[eg] at hsv
   obtain⟨gi,gz⟩:=g
   obtain⟨hgm,hgs⟩:=hsv
   have hgm:gi∈ms:=hgm
   have hgl2:=hV gi hgm
   have hpg:t.pt gi=t.pt cur:=by rw[(hpart gi).2 hgm,hL.v.2,hpst]
   have hmul:j*4001<=8000*4001:=Nat.mul_le_mul_right _ (by omega)
   refine nI ?_
   rw[tN,eg]
   cases gz with
   |none=>
    conv=>whnf
    refine ar.of_pure (n:=5) (LD h cur gi hL.v.1 hgl2 hpg) rfl ?_
    rintro _ ⟨l1,hw1,hl1,rfl⟩
    have hL1:=hL.go (j:=gi) ⟨hgl2,by rw[(hpart gi).2 hgm,hpst]⟩ hw1
    have hlen1:(lp++l1).length<=j*4001+4000:=by rw[List.length_append];omega
    conv=>whnf
    refine eC l1 rfl (by dsimp only;omega) ?_
    conv=>whnf
    have hL2:=hL1.free (k:=(lR (s.n-s.f).toNat p.rules.length).getD j (0,0)) hgs
    rw[<-htk] at hL2
    repeat' ((first|refine nI ?_|refine aI ?_|refine tI ?_|refine fI ?_|fail);conv=>whnf)
    refine⟨(j+1,lp++l1,gi),?_,⟨by dsimp only;omega,hL2,by dsimp only;rw[Nat.add_mul];omega⟩,by dsimp only;omega⟩
    dsimp only
    exact bE.by_ [(6, .old 6),(1000, .old 65)] _ 400 rfl (ai) (ai)
   |some e=>
    obtain⟨he1,he2,he3,he4⟩:=hgs
    have he1:e∈es.getD gi []:=he1
    have he2:t.pt e.to.toNat=t.pt gi:=he2
    obtain⟨z,x,rfl,hz⟩:∃(z:Nat) (x:be),e=⟨(z:Int),x⟩/\z<es.length:=by
     obtain⟨z,h1,h2⟩:=h.ok.e gi e he1
     obtain⟨a,b⟩:=e
     have h1:a=(z:Int):=h1
     exact⟨z,b,by rw[h1],h2⟩
    conv=>whnf
    refine ar.of_pure (n:=5) (LD h cur gi hL.v.1 hgl2 hpg) rfl ?_
    rintro _ ⟨l1,hw1,hl1,rfl⟩
    have hL1:=hL.go (j:=gi) ⟨hgl2,by rw[(hpart gi).2 hgm,hpst]⟩ hw1
    have hlen1:(lp++l1).length<=j*4001+4000:=by rw[List.length_append];omega
    conv=>whnf
    refine eC l1 rfl (by dsimp only;omega) ?_
    conv=>whnf
    have hL2:=hL1.took hG (j:=z) (x:=x) he1 (by rw[show t.pt z=t.pt gi from he2,(hpart gi).2 hgm,hpst]) ⟨he3,he4⟩
    rw[<-htk] at hL2
    refine c8 bm cF [x] rfl ?_
    conv=>whnf
    refine eC [x] rfl (by dsimp only[List.length_cons,List.length_nil];omega) ?_
    conv=>whnf
    repeat' ((first|refine nI ?_|refine aI ?_|refine tI ?_|refine fI ?_|fail);conv=>whnf)
    refine⟨(j+1,(lp++l1)++[x],z),?_,⟨by dsimp only;omega,hL2,by dsimp only;rw[List.length_append,List.length_singleton,Nat.add_mul];omega⟩,by dsimp only;omega⟩
    dsimp only
    exact bE.by_ [(6, .old 6),(1000, .old 78)] _ 400 rfl (ai) (ai)
  ·obtain rfl:j=gs.length:=by omega
   have hmul:gs.length*4001<=8000*4001:=Nat.mul_le_mul_right _ (by omega)
   refine ar.of_pure (n:=5) (LD h cur st hL.v.1 hstl hL.v.2.symm) rfl ?_
   rintro _ ⟨l1,hw1,hl1,rfl⟩
   have hL1:=hL.go (j:=st) ⟨hstl,rfl⟩ hw1
   have hlen1:(lp++l1).length<=gs.length*4001+4000:=by rw[List.length_append];omega
   rw[hgl,List.take_length] at hL1
   obtain⟨r,xs,hc⟩:=dj.ex h.x.se.og st (by rw[<-h.l];exact hstl)
   have hyl:st<y.1.length:=by rw[<-h.l];exact hstl
   have hrl:r<y.1.length:=Nat.lt_of_le_of_lt hc.rootTop hyl
   have hr:=h.x.se.og.rdy S hrl
   obtain⟨c1,c2,c3⟩:=h.x.chain hc hyl
   have hxl:=hc.lenTop
   conv=>whnf
   refine eC l1 rfl (by dsimp only;omega) ?_
   conv=>whnf
   refine ar.of_pure (n:=5) (LP p s y.1 st r xs hc hyl (by rw[<-h.l];exact hn) hr.wide) rfl ?_
   rintro _ rfl
   have hlas:qV p q s (cS q) ⟨(ce y.1 r).c,xs,lp++l1⟩:=hL1.done hsz hkd c1 c2 c3 hmem
   conv=>whnf
   have hisx:JO p q s:=vW hlas
   exact⟨[90],5, .inl ⟨⟨(ce y.1 r).c,xs,lp++l1⟩,true,0,by rw[<-List.length_append];rfl,⟨fun _=>⟨rfl,⟨fun _=>hisx,fun _=>rfl⟩⟩,fun h=>absurd hok h⟩,(fun _=>⟨hlas,hr.wide,by dsimp only;omega,by dsimp only;omega⟩),fun h=>nomatch h⟩⟩
 ·obtain rfl:k=t.inn.length:=by omega
  have hnf:=h.nofair hno
  exact⟨[],5, .inr ⟨0,rfl,⟨fun _=>⟨rfl,⟨fun h=>(nomatch h),fun h=>absurd h hnf⟩⟩,fun h=>absurd hok h⟩,(fun h=>nomatch h),fun _=>rfl⟩⟩
end
section
set_option maxRecDepth 100000
set_option maxHeartbeats 16000000
structure Mc (p:aq) (q:bO) (s:aB) (l:zM) (is:Bool) (e:Int):Prop where
 bad:fO p q s≠0->l=E1/\is=false/\e=fO p q s
 kind:fO p q s=0->q.kind≠2->l=E1/\is=false/\e=7
 ok:fO p q s=0->q.kind=2->JA p q s l is e
def Mb (p:aq) (q:bO) (s:aB) (u:AV):Prop:=∃l is e,u= .tup [.agg (Cp l), .bool is, .int .i64 e]/\Mc p q s l is e
def Md (p:aq) (q:bO) (s:aB) (u:AV):Prop:=Mb p q s u\/∃e,u= .tup [.agg [.nilsl, .nilsl, .int .i64 0, .nilsl, .nilsl, .int .i64 0, .nilsl, .nilsl], .bool false, .int .i64 e]/\Mc p q s E1 false e
theorem aa.fl {P:Program} {f:FuncId} {us:List AV} {p:aq} {q:bO} {s:aB} (h:aa P f us (Md p q s)):aa P f us (Mb p q s):=by
 refine aa.sub h ?_
 rintro u (h|⟨e,rfl,h⟩)
 ·obtain⟨l,is,e,rfl,h⟩:=h
  exact⟨_,⟨l,is,e,rfl,h⟩,ai,rfl⟩
 ·exact⟨_,⟨E1,false,e,rfl,h⟩,ai,rfl⟩
theorem L9 (p:aq) (q:bO) (s:aB) (hp:¬bV p) (hq:¬fC q):aa Tryz.prog 8 [.agg (bc p), .agg (gb q), .agg (bW s)] (Mb p q s):=by
 refine aa.fl ?_
 refine aa.intro ab ac Tryz.func8 rfl (by decide) ?_;(conv=>whnf)
 refine am rfl ?_
 conv=>whnf
 refine am rfl ?_
 conv=>whnf
 refine am rfl ?_
 conv=>whnf
 (refine oP (zw p q s hp hq) ?_;conv=>whnf)
 refine ag ?_ ?_<;>(intro h1;conv=>whnf)
 ·exact⟨.inr ⟨fO p q s,rfl,fun _=>⟨rfl,rfl,rfl⟩,fun h=>absurd h h1,fun h=>absurd h h1⟩,rfl⟩
 have h0:fO p q s=0:=by omega
 refine ag ?_ ?_<;>(intro h2;conv=>whnf)
 ·exact⟨.inr ⟨7,rfl,fun h=>absurd h0 h,fun _ _=>⟨rfl,rfl,rfl⟩,fun _ h=>absurd h h2⟩,rfl⟩
 have h2':q.kind=2:=by omega
 refine ar.of_pure (n:=5) (LY p q s ⟨hp,hq,h0⟩ h2') rfl ?_
 rintro _ ⟨l,is,e,rfl,hL⟩
 conv=>whnf
 exact⟨.inl ⟨l,is,e,rfl,fun h=>absurd h0 h,fun _ h=>absurd h2' h,fun _ _=>hL⟩,rfl⟩
theorem Me (c:ap):aa Tryz.prog 16 [.agg (aY c)] (fun u=>u= .bool (aX c)):=by
 refine aa.intro ab ac Tryz.func16 rfl (by decide) ?_;(conv=>whnf)
 refine am rfl ?_
 conv=>whnf
 repeat' ((first|refine nI ?_|refine aI ?_|refine uI ?_|refine vI ?_|refine dI ?_|refine dR ?_|refine dP ?_|refine am rfl ?_|refine pI _ rfl ?_|refine ak _ rfl ?_|refine tI ?_|refine fI ?_|refine ag (fun _=>?_) (fun _=>?_))<;>conv=>whnf)
 all_goals
  refine⟨ox ?_,rfl⟩
  unfold aX
  symm
  simp
  omega
theorem L' (p:aq) (q:bO) (s:aB) (l:zM):aa Tryz.prog 5 [.agg (HS p q s), .agg (Cp l)] (fun u=>u= .bool true):=by
 refine aa.intro ab ac Tryz.func5 rfl (by decide) ?_;(conv=>whnf)
 refine am rfl ?_
 conv=>whnf
 refine am rfl ?_
 conv=>whnf
 refine dC (HT p q s) (fun _=>?_) (fun _=>?_)<;>(conv=>whnf)
 ·(refine oP (IW) ?_;conv=>whnf)
  exact⟨rfl,rfl⟩
 rename_i hb
 have hp:¬bV p:=fun h=>hb (.inl h)
 have hq:¬fC q:=fun h=>hb (.inr h)
 refine ag ?_ ?_<;>(intro h0;conv=>whnf)
 ·(refine oP (IW) ?_;conv=>whnf)
  exact⟨rfl,rfl⟩
 have hW:=Me l.start
 cases hw:aX l.start with
 |true=>
  rw[hw] at hW
  (refine oP (hW) ?_;conv=>whnf)
  (refine oP (IW) ?_;conv=>whnf)
  exact⟨rfl,rfl⟩
 |false=>
  rw[hw] at hW
  (refine oP (hW) ?_;conv=>whnf)
  refine ag ?_ ?_<;>(intro h1;conv=>whnf)
  ·(refine oP (IW) ?_;conv=>whnf)
   exact⟨rfl,rfl⟩
  refine ag ?_ ?_<;>(intro h2;conv=>whnf)
  ·(refine oP (IW) ?_;conv=>whnf)
   exact⟨rfl,rfl⟩
  have b1:=HX p q s l hp hq hw (by omega) (by omega)
  refine ar.of_pure (n:=5) (L9 p q s hp hq) rfl ?_
  rintro _ ⟨l',is,e,rfl,hA⟩
  by_cases he:e=0
  case neg=>
   conv=>whnf
   refine fc he ?_
   conv=>whnf
   (refine oP (IW) ?_;conv=>whnf)
   exact⟨rfl,rfl⟩
  subst he
  cases is with
  |true=>
   conv=>whnf
   refine fI ?_
   conv=>whnf
   (refine oP (IW) ?_;conv=>whnf)
   exact⟨rfl,rfl⟩
  |false=>
   have hno:¬qV p q s (cS q) l:=by
    by_cases c0:fO p q s=0
    ·by_cases c1:q.kind=2
     ·exact(hA.ok c0 c1).toLaQ.last rfl l
     ·exact fun h=>c1 h.2.1
    ·exact fun h=>c0 h.1
   rw[decide_eq_false hno] at b1
   conv=>whnf
   refine fI ?_
   conv=>whnf
   (refine oP (b1) ?_;conv=>whnf)
   (refine oP (IW) ?_;conv=>whnf)
   exact⟨rfl,rfl⟩
end
end Go.Proofs.YtblcpnmnibcbbaaGreatDoor
