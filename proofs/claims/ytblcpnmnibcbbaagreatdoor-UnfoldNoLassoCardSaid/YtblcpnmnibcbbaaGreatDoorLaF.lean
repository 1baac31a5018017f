import Derived.Test.YtblcpnmnibcbbaaGreatDoorLaEa
set_option linter.unusedVariables false
set_option linter.unusedSimpArgs false
namespace Go.Proofs.YtblcpnmnibcbbaaGreatDoor
set_option maxRecDepth 100000
set_option maxHeartbeats 16000000
structure Lv where
 at_:Nat
 stp:Option GL
def Ln:Lv:=⟨0,none⟩
def Lx (o:Option GL):AV:=match o with
 |some e=>.pd (Kt e)
 |none=>.val (.pointer none)
def Lp (g:Lv):List AV:=[.int .i64 (g.at_:Int),Lx g.stp]
theorem Lo {l:List Nat} {k:Nat}:(JN l).getD k 0=((l.getD k 0:Nat):Int):=by
 unfold JN
 rw[gD,List.getElem?_map,gD]
 cases l[k]?<;>rfl
theorem Lq {n i j:Nat} (hi:i<n) (hj:j<n) (f:Nat->Option Nat):(vU n f).getD i 0=(vU n f).getD j 0↔f i=f j:=by
 have key:∀k,k<n->(vU n f).getD k 0=(match f k with|some m=>(m:Int)|none=>-1):=fun k hk=>by
  rw[vU,gD,List.getElem?_map,List.getElem?_range hk];rfl
 rw[key i hi,key j hj]
 cases f i with
 |none=>
  cases f j with
  |none=>simp
  |some b=>constructor<;>intro h<;>first|omega|cases h
 |some a=>
  cases f j with
  |none=>constructor<;>intro h<;>first|omega|cases h
  |some b=>
   constructor
   ·intro h
    have h:(a:Int)=(b:Int):=h
    rw[show a=b by omega]
   ·intro h
    cases h
    rfl
section
variable {p:aq} {q:bO} {s:aB} {y:mZ} {es:List (List GL)} {t:TS}
def Lt (p:aq) (s:aB) (y:mZ) (es:List (List GL)) (t:TS) (ms:List Nat) (k:Int×Int) (g:Lv):Prop:=
 g.at_∈ms/\match g.stp with
  |none=>¬za p s (ce y.1 g.at_).c k.1 k.2
  |some e=>e∈es.getD g.at_ []/\t.pt e.to.toNat=t.pt g.at_/\e.stp.rule=k.1/\e.stp.process=k.2
def Lw (p:aq) (s:aB) (y:mZ) (es:List (List GL)) (t:TS) (ms:List Nat) (k:Int×Int):Prop:=∀g,¬Lt p s y es t ms k g
structure Lu (es:List (List GL)) (ms:List Nat):Prop where
 n:ms.length<=4000
 lt:∀x∈ms,x<es.length
theorem Lm {ms:List Nat} {k:Nat} (h:k<ms.length):ms.getD k 0∈ms:=nN h
theorem Lr (h:K8 p q s y es t) (S:jI p q s) (ms:List Nat) (hms:Lu es ms) (k:Int×Int):
  aa Tryz.prog 106 [.pd (K9 p s y.1 es t), .sl 0 aD (JN ms), .agg (Ex k)] (fun u=>(∃g,Lt p s y es t ms k g/\u= .tup [.agg (Lp g), .bool true])\/(Lw p s y es t ms k/\u= .tup [.agg (Lp Ln), .bool false])):=by
 have hn:=hms.n
 have hl:=h.l
 have hes:=h.ok
 have hrd:=fun i (hi:i<y.1.length)=>h.x.se.og.rdy S hi
 obtain⟨k1,k2⟩:=k
 refine aa.intro ab ac Tryz.func106 rfl (by decide) ?_;(conv=>whnf)
 refine am rfl ?_
 conv=>whnf
 refine aR.loopF ab ac (fun j:Nat=>j<=ms.length/\∀i,i<j->za p s (ce y.1 (ms.getD i 0)).c k1 k2) (fun j=>[(16, .int .i64 (j:Int))]) (fun _=>[(6, .box 116 [.int .i64 0, .val (.pointer none)])]) (fun j=>ms.length-j) 0 ⟨Nat.zero_le _,fun i hi=>absurd hi (Nat.not_lt_zero _)⟩ ?_;conv=>whnf
 refine⟨bE.by_ [(6, .old 6)] _ 400 rfl (ai) (ai),?_⟩
 rintro j ⟨hj,hf⟩
 have hll:=J5 ms
 conv=>whnf
 refine ag ?_ ?_<;>(intro g1;conv=>whnf)
 ·have hjl:j<ms.length:=by omega
  have hmem:=Lm hjl
  obtain⟨i,hi⟩:∃i,ms.getD j 0=i:=⟨_,rfl⟩
  rw[hi] at hmem
  have hin:=hms.lt i hmem
  have hat:(JN ms).getD j 0=(i:Int):=by rw[Lo,hi]
  have hr:=hrd i (by omega)
  obtain⟨o,ho⟩:∃o,ce y.1 i=o:=⟨_,rfl⟩
  have ho':y.1.getD i hZ=o:=ho
  rw[ho] at hr
  refine nI ?_
  rw[tN]
  rw[hat]
  conv=>whnf
  refine dI ?_
  conv=>whnf
  refine nI ?_
  rw[tN]
  rw[ho']
  conv=>whnf
  (refine oC (F6 p s o.c hr.wide) ?_;conv=>whnf)
  refine dD (Ej p s o.c k1 k2 hr) (fun _=>?_) (fun _=>?_)<;>(conv=>whnf)
  ·rename_i hfc
   repeat' ((first|refine nI ?_|refine aI ?_|refine tI ?_|refine fI ?_|fail);conv=>whnf)
   refine⟨j+1,bE.by_ [(6, .old 6)] _ 400 rfl (ai) (ai),⟨by omega,fun m hm=>?_⟩,by dsimp only;omega⟩
   by_cases e:m=j
   ·subst e;rw[hi,ho];exact hfc
   ·exact hf m (by omega)
  ·rename_i hfc
   refine⟨.inl ⟨⟨i,none⟩,⟨hmem,?_⟩,rfl⟩,rfl⟩
   show¬za p s (ce y.1 i).c k1 k2
   rw[ho];exact hfc
 obtain rfl:j=ms.length:=by omega
 refine aR.loopF ab ac (fun j:Nat=>j<=ms.length/\∀i,i<j->∀e∈es.getD (ms.getD i 0) [],¬(t.pt e.to.toNat=t.pt (ms.getD i 0)/\e.stp.rule=k1/\e.stp.process=k2)) (fun j=>[(57, .int .i64 (j:Int))]) (fun _=>[(6, .box 116 [.int .i64 0, .val (.pointer none)])]) (fun j=>ms.length-j) 0 ⟨Nat.zero_le _,fun i hi=>absurd hi (Nat.not_lt_zero _)⟩ ?_;conv=>whnf
 refine⟨bE.by_ [(6, .old 6)] _ 400 rfl (ai) (ai),?_⟩
 rintro j ⟨hj2,hf2⟩
 conv=>whnf
 refine ag ?_ ?_<;>(intro g2;conv=>whnf)
 ·have hjl:j<ms.length:=by omega
  have hmem:=Lm hjl
  obtain⟨i,hi⟩:∃i,ms.getD j 0=i:=⟨_,rfl⟩
  rw[hi] at hmem
  have hin:=hms.lt i hmem
  have hat:(JN ms).getD j 0=(i:Int):=by rw[Lo,hi]
  have hdl:=hes.l i
  have hei:=hes.e i
  refine nI ?_
  rw[tN]
  rw[hat]
  conv=>whnf
  refine nI ?_
  rw[tN]
  conv=>whnf
  refine aR.loopF ab ac (fun m:Nat=>m<=(es.getD i []).length/\∀x,x<m->¬(t.pt ((es.getD i []).getD x Kb).to.toNat=t.pt i/\((es.getD i []).getD x Kb).stp.rule=k1/\((es.getD i []).getD x Kb).stp.process=k2)) (fun m=>[(69, .int .i64 (m:Int))]) (fun _=>[(6, .box 116 [.int .i64 0, .val (.pointer none)])]) (fun m=>(es.getD i []).length-m) 0 ⟨Nat.zero_le _,fun x hx=>absurd hx (Nat.not_lt_zero _)⟩ ?_;conv=>whnf
  refine⟨bE.by_ [(6, .old 6)] _ 400 rfl (ai) (ai),?_⟩
  rintro m ⟨hm,hf3⟩
  conv=>whnf
  refine ag ?_ ?_<;>(intro g3;conv=>whnf)
  ·have hml:m<(es.getD i []).length:=by omega
   obtain⟨z,x,hyx,hyn⟩:∃(z:Nat) (x:be),(es.getD i []).getD m Kb=⟨(z:Int),x⟩/\z<es.length:=by
    obtain⟨z,h1,h2⟩:=hei _ (bi Kb hml)
    refine⟨z,((es.getD i []).getD m Kb).stp,?_,h2⟩
    rw[<-h1]
   have hme:(⟨(z:Int),x⟩:GL)∈es.getD i []:=by rw[<-hyx];exact bi Kb hml
   have hpi:=Lq hyn hin t.pt
   have hpl:=Ir es.length t.pt
   have next:¬(t.pt z=t.pt i/\x.rule=k1/\x.process=k2)->∀a,a<m+1->¬(t.pt ((es.getD i []).getD a Kb).to.toNat=t.pt i/\((es.getD i []).getD a Kb).stp.rule=k1/\((es.getD i []).getD a Kb).stp.process=k2):=by
    intro hno a ha
    by_cases e:a=m
    ·subst e;rw[hyx];exact hno
    ·exact hf3 a (by omega)
   refine nI ?_
   rw[tN]
   conv=>whnf
   refine nI ?_
   rw[tN]
   rw[hyx]
   conv=>whnf
   refine dI ?_
   conv=>whnf
   refine nI ?_
   rw[tN]
   conv=>whnf
   refine nI ?_
   rw[tN]
   conv=>whnf
   refine ag ?_ ?_<;>(intro g4;conv=>whnf)
   ·refine ag ?_ ?_<;>(intro g5;conv=>whnf)
    ·refine ag ?_ ?_<;>(intro g6;conv=>whnf)
     ·exact⟨.inl ⟨⟨i,some ⟨(z:Int),x⟩⟩,⟨hmem,hme,hpi.1 g4,g5,g6⟩,rfl⟩,rfl⟩
     ·repeat' ((first|refine nI ?_|refine aI ?_|refine tI ?_|refine fI ?_|fail);conv=>whnf)
      exact⟨m+1,bE.by_ [(6, .old 6)] _ 400 rfl (ai) (ai),⟨by omega,next fun h=>g6 h.2.2⟩,by dsimp only;omega⟩
    ·repeat' ((first|refine nI ?_|refine aI ?_|refine tI ?_|refine fI ?_|fail);conv=>whnf)
     exact⟨m+1,bE.by_ [(6, .old 6)] _ 400 rfl (ai) (ai),⟨by omega,next fun h=>g5 h.2.1⟩,by dsimp only;omega⟩
   ·repeat' ((first|refine nI ?_|refine aI ?_|refine tI ?_|refine fI ?_|fail);conv=>whnf)
    exact⟨m+1,bE.by_ [(6, .old 6)] _ 400 rfl (ai) (ai),⟨by omega,next fun h=>g4 (hpi.2 h.1)⟩,by dsimp only;omega⟩
  ·obtain rfl:m=(es.getD i []).length:=by omega
   repeat' ((first|refine nI ?_|refine aI ?_|refine tI ?_|refine fI ?_|fail);conv=>whnf)
   refine⟨j+1,bE.by_ [(6, .old 6)] _ 400 rfl (ai) (ai),⟨by omega,fun a ha e he=>?_⟩,by dsimp only;omega⟩
   by_cases e2:a=j
   ·subst e2
    rw[hi] at he⊢
    obtain⟨x,hx,rfl⟩:=bL Kb he
    exact hf3 x hx
   ·exact hf2 a (by omega) e he
 obtain rfl:j=ms.length:=by omega
 refine⟨.inr ⟨fun g hg=>?_,rfl⟩,rfl⟩
 obtain⟨gi,gs⟩:=g
 obtain⟨hg1,hg2⟩:=hg
 have hg1:gi∈ms:=hg1
 obtain⟨a,ha,rfl⟩:=zW hg1
 cases gs with
 |none=>exact hg2 (hf a ha)
 |some e=>
  obtain⟨e1,e2⟩:=hg2
  exact hf2 a ha e e1 e2
theorem Ls (h:K8 p q s y es t) (S:jI p q s) (ms:List Nat) (hms:Lu es ms):
  aa Tryz.prog 51 [.pd (K9 p s y.1 es t), .sl 0 aD (JN ms)] (fun u=>
   (∃gs,gs.length=(lR (s.n-s.f).toNat p.rules.length).length/\(∀j,j<gs.length->Lt p s y es t ms ((lR (s.n-s.f).toNat p.rules.length).getD j (0,0)) (gs.getD j Ln))/\u= .tup [.sl Ln Lp gs, .bool true])\/
   ((∃k∈lR (s.n-s.f).toNat p.rules.length,Lw p s y es t ms k)/\u= .tup [.nilsl, .bool false])):=by
 have hsz:(1<=s.n/\s.n<=8)/\(0<=s.f/\s.f<=s.n):=by
  have h2:=dY S.siz.2
  omega
 have hle:=aC S.hp
 have hkl:(lR (s.n-s.f).toNat p.rules.length).length<=8000:=by
  rw[tk]
  have:=Nat.mul_le_mul (show p.rules.length<=1000 by omega) (show(s.n-s.f).toNat<=8 by omega)
  omega
 have hP:=Gm p s S.hp hsz
 generalize lR (s.n-s.f).toNat p.rules.length=ks at hP hkl⊢
 refine aa.intro ab ac Tryz.func51 rfl (by decide) ?_;(conv=>whnf)
 refine dI ?_
 conv=>whnf
 (refine oC (hP) ?_;conv=>whnf)
 refine aR.loopF ab ac (fun z:Nat×List Lv=>z.1<=ks.length/\z.2.length=z.1/\∀j,j<z.2.length->Lt p s y es t ms (ks.getD j (0,0)) (z.2.getD j Ln)) (fun z=>[(6, .row 1000 z.2.length 2),(27, .int .i64 (z.1:Int))]) (fun z=>[(1000, .row 116 Ln Lp z.2)]) (fun z=>ks.length-z.1) (0,[]) ⟨Nat.zero_le _,rfl,fun j hj=>absurd hj (Nat.not_lt_zero _)⟩ ?_;conv=>whnf
 refine⟨bE.by_ [(1000, .nil 2)] _ 400 rfl (ai) (ai),?_⟩
 rintro⟨k,gs⟩ ⟨hk,hgl,hg⟩
 dsimp only at hk hgl hg⊢
 conv=>whnf
 refine ag ?_ ?_<;>(intro g1;conv=>whnf)
 ·have hlt:k<ks.length:=by omega
  refine nI ?_
  rw[tN]
  conv=>whnf
  refine ar.of_pure (n:=5) (Lr h S ms hms (ks.getD k (0,0))) rfl ?_
  rintro _ (⟨g,hs,rfl⟩|⟨hno,rfl⟩)
  ·have next:∀j,j<(gs++[g]).length->Lt p s y es t ms (ks.getD j (0,0)) ((gs++[g]).getD j Ln):=by
    intro j hj
    rw[List.length_append,List.length_singleton] at hj
    rw[ja]
    by_cases e:j<gs.length
    ·rw[if_pos e];exact hg j e
    ·obtain rfl:j=gs.length:=by omega
     rw[if_neg e,if_pos rfl,hgl];exact hs
   obtain⟨gi,gz⟩:=g
   cases gz with
   |none=>
    conv=>whnf
    refine c8 Ln Lp [⟨gi,none⟩] rfl ?_
    conv=>whnf
    refine eC [⟨gi,none⟩] rfl lI ?_
    conv=>whnf
    repeat' ((first|refine nI ?_|refine aI ?_|refine tI ?_|refine fI ?_|fail);conv=>whnf)
    refine⟨(k+1,gs++[⟨gi,none⟩]),?_,⟨by dsimp only;omega,by dsimp only;rw[List.length_append,hgl];rfl,next⟩,by dsimp only;omega⟩
    exact bE.by_ [(1000, .old 43)] _ 400 rfl (ai) (ai)
   |some e=>
    conv=>whnf
    refine c8 Ln Lp [⟨gi,some e⟩] rfl ?_
    conv=>whnf
    refine eC [⟨gi,some e⟩] rfl lI ?_
    conv=>whnf
    repeat' ((first|refine nI ?_|refine aI ?_|refine tI ?_|refine fI ?_|fail);conv=>whnf)
    refine⟨(k+1,gs++[⟨gi,some e⟩]),?_,⟨by dsimp only;omega,by dsimp only;rw[List.length_append,hgl];rfl,next⟩,by dsimp only;omega⟩
    exact bE.by_ [(1000, .old 43)] _ 400 rfl (ai) (ai)
  ·conv=>whnf
   exact⟨.inr ⟨⟨_,bi (0,0) hlt,hno⟩,rfl⟩,rfl⟩
 ·obtain rfl:k=ks.length:=by omega
  exact⟨.inl ⟨gs,hgl,hg,rfl⟩,rfl⟩
end
end Go.Proofs.YtblcpnmnibcbbaaGreatDoor
